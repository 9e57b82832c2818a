/- Facts on the types' table, on how functions are called. -/
import Derived.Test.YthhfjjnhkifbfaaDoorMLDTakes1
import Derived.Test.YthhfjjnhkifbfaaDoorMLDTakes2
import Derived.Test.YthhfjjnhkifbfaaDoorMLDTakes3
import Derived.Test.YthhfjjnhkifbfaaDoorMLDTakes4
set_option linter.unusedVariables false
set_option linter.unusedSimpArgs false
set_option linter.unnecessarySimpa false
namespace Go.Proofs.YthhfjjnhkifbfaaDoor.A
open Go
noncomputable def EX (md : FuncId → Mode) (X : FuncId → List AV → Option AV) : Env := ⟨Tryd.prog, md, X⟩
@[go_sem] theorem EX_P (md X) : (EX md X).P = Tryd.prog := rfl
@[go_sem] theorem EX_m (md X g) : (EX md X).mode g = md g := rfl
@[go_sem] theorem EX_x (md X g as_) : (EX md X).ext g as_ = X g as_ := rfl
@[go_sem] theorem T2s : tSize Tryd.prog 2 = some 1 := by kernel_rfl
@[go_sem] theorem T2a : tAgg Tryd.prog 2 = some false := by kernel_rfl
@[go_sem] theorem T2z : tZero Tryd.prog 2 = some [AV.int .i64 0] := by kernel_rfl
@[go_sem] theorem T2u : Tryd.prog.underlying 2 = some (.int .i64) := by kernel_rfl
@[go_sem] theorem T3s : tSize Tryd.prog 3 = some 1 := by kernel_rfl
@[go_sem] theorem T3a : tAgg Tryd.prog 3 = some false := by kernel_rfl
@[go_sem] theorem T3z : tZero Tryd.prog 3 = some [AV.int .i64 0] := by kernel_rfl
@[go_sem] theorem T3u : Tryd.prog.underlying 3 = some (.int .i64) := by kernel_rfl
@[go_sem] theorem T4s : tSize Tryd.prog 4 = some 1 := by kernel_rfl
@[go_sem] theorem T4a : tAgg Tryd.prog 4 = some false := by kernel_rfl
@[go_sem] theorem T4z : tZero Tryd.prog 4 = some [AV.bool false] := by kernel_rfl
@[go_sem] theorem T4eq (x y) : aBin Tryd.prog .eql 4 (.bool x) (.bool y) = some (.bool (x == y)) := aBin_beq (by kernel_rfl) x y
@[go_sem] theorem T4ne (x y) : aBin Tryd.prog .neq 4 (.bool x) (.bool y) = some (.bool (!(x == y))) := aBin_bne (by kernel_rfl) x y
@[go_sem] theorem T5s : tSize Tryd.prog 5 = some 1 := by kernel_rfl
@[go_sem] theorem T5a : tAgg Tryd.prog 5 = some false := by kernel_rfl
@[go_sem] theorem T5z : tZero Tryd.prog 5 = some [AV.int .u8 0] := by kernel_rfl
@[go_sem] theorem T5u : Tryd.prog.underlying 5 = some (.int .u8) := by kernel_rfl
@[go_sem] theorem T6s : tSize Tryd.prog 6 = some 1 := by kernel_rfl
@[go_sem] theorem T6a : tAgg Tryd.prog 6 = some false := by kernel_rfl
@[go_sem] theorem T6z : tZero Tryd.prog 6 = some [AV.int .u8 0] := by kernel_rfl
@[go_sem] theorem T6u : Tryd.prog.underlying 6 = some (.int .u8) := by kernel_rfl
@[go_sem] theorem T7s : tSize Tryd.prog 7 = some 4 := by kernel_rfl
@[go_sem] theorem T7a : tAgg Tryd.prog 7 = some true := by kernel_rfl
@[go_sem] theorem T7z : tZero Tryd.prog 7 = some [AV.int .i64 0, AV.int .i64 0, AV.bool false, AV.int .u8 0] := by kernel_rfl
@[go_sem] theorem T7f0p (k g off) : fieldAddrA Tryd.prog 7 0 (.ptr k g off) = some (.ptr k g (off + 0)) := fa_ptr (s := 0) (ft := 2) (by kernel_rfl) (by kernel_rfl) k g off
@[go_sem] theorem T7f0q (cs) : fieldAddrA Tryd.prog 7 0 (.fptr cs) = some (.fptr (cs.drop 0)) := fa_fptr (s := 0) (ft := 2) (by kernel_rfl) (by kernel_rfl) cs
@[go_sem] theorem T7f0v (cs) : fieldA Tryd.prog 7 0 (.agg cs) = takeT Tryd.prog 2 (cs.drop 0) := fi_agg (by kernel_rfl) cs
@[go_sem] theorem T7f1p (k g off) : fieldAddrA Tryd.prog 7 1 (.ptr k g off) = some (.ptr k g (off + 1)) := fa_ptr (s := 0) (ft := 3) (by kernel_rfl) (by kernel_rfl) k g off
@[go_sem] theorem T7f1q (cs) : fieldAddrA Tryd.prog 7 1 (.fptr cs) = some (.fptr (cs.drop 1)) := fa_fptr (s := 0) (ft := 3) (by kernel_rfl) (by kernel_rfl) cs
@[go_sem] theorem T7f1v (cs) : fieldA Tryd.prog 7 1 (.agg cs) = takeT Tryd.prog 3 (cs.drop 1) := fi_agg (by kernel_rfl) cs
@[go_sem] theorem T7f2p (k g off) : fieldAddrA Tryd.prog 7 2 (.ptr k g off) = some (.ptr k g (off + 2)) := fa_ptr (s := 0) (ft := 4) (by kernel_rfl) (by kernel_rfl) k g off
@[go_sem] theorem T7f2q (cs) : fieldAddrA Tryd.prog 7 2 (.fptr cs) = some (.fptr (cs.drop 2)) := fa_fptr (s := 0) (ft := 4) (by kernel_rfl) (by kernel_rfl) cs
@[go_sem] theorem T7f2v (cs) : fieldA Tryd.prog 7 2 (.agg cs) = takeT Tryd.prog 4 (cs.drop 2) := fi_agg (by kernel_rfl) cs
@[go_sem] theorem T7f3p (k g off) : fieldAddrA Tryd.prog 7 3 (.ptr k g off) = some (.ptr k g (off + 3)) := fa_ptr (s := 0) (ft := 6) (by kernel_rfl) (by kernel_rfl) k g off
@[go_sem] theorem T7f3q (cs) : fieldAddrA Tryd.prog 7 3 (.fptr cs) = some (.fptr (cs.drop 3)) := fa_fptr (s := 0) (ft := 6) (by kernel_rfl) (by kernel_rfl) cs
@[go_sem] theorem T7f3v (cs) : fieldA Tryd.prog 7 3 (.agg cs) = takeT Tryd.prog 6 (cs.drop 3) := fi_agg (by kernel_rfl) cs
@[go_sem] theorem T7bd (xs) : aBuild Tryd.prog 7 xs = (fillA (fun i => ([(0, 1), (1, 1), (2, 1), (3, 1)] : List (Nat × Nat))[i]?) [AV.int .i64 0, AV.int .i64 0, AV.bool false, AV.int .u8 0] xs).map .agg := by kernel_rfl
@[go_sem] theorem T7lf : eqLeaves Tryd.prog 7 = some [Leaf.int, Leaf.int, Leaf.bool, Leaf.int] := by kernel_rfl
@[go_sem] theorem T8s : tSize Tryd.prog 8 = some 4 := by kernel_rfl
@[go_sem] theorem T8a : tAgg Tryd.prog 8 = some true := by kernel_rfl
@[go_sem] theorem T8z : tZero Tryd.prog 8 = some [AV.int .i64 0, AV.int .i64 0, AV.bool false, AV.int .u8 0] := by kernel_rfl
@[go_sem] theorem T8f0p (k g off) : fieldAddrA Tryd.prog 8 0 (.ptr k g off) = some (.ptr k g (off + 0)) := fa_ptr (s := 0) (ft := 2) (by kernel_rfl) (by kernel_rfl) k g off
@[go_sem] theorem T8f0q (cs) : fieldAddrA Tryd.prog 8 0 (.fptr cs) = some (.fptr (cs.drop 0)) := fa_fptr (s := 0) (ft := 2) (by kernel_rfl) (by kernel_rfl) cs
@[go_sem] theorem T8f0v (cs) : fieldA Tryd.prog 8 0 (.agg cs) = takeT Tryd.prog 2 (cs.drop 0) := fi_agg (by kernel_rfl) cs
@[go_sem] theorem T8f1p (k g off) : fieldAddrA Tryd.prog 8 1 (.ptr k g off) = some (.ptr k g (off + 1)) := fa_ptr (s := 0) (ft := 3) (by kernel_rfl) (by kernel_rfl) k g off
@[go_sem] theorem T8f1q (cs) : fieldAddrA Tryd.prog 8 1 (.fptr cs) = some (.fptr (cs.drop 1)) := fa_fptr (s := 0) (ft := 3) (by kernel_rfl) (by kernel_rfl) cs
@[go_sem] theorem T8f1v (cs) : fieldA Tryd.prog 8 1 (.agg cs) = takeT Tryd.prog 3 (cs.drop 1) := fi_agg (by kernel_rfl) cs
@[go_sem] theorem T8f2p (k g off) : fieldAddrA Tryd.prog 8 2 (.ptr k g off) = some (.ptr k g (off + 2)) := fa_ptr (s := 0) (ft := 4) (by kernel_rfl) (by kernel_rfl) k g off
@[go_sem] theorem T8f2q (cs) : fieldAddrA Tryd.prog 8 2 (.fptr cs) = some (.fptr (cs.drop 2)) := fa_fptr (s := 0) (ft := 4) (by kernel_rfl) (by kernel_rfl) cs
@[go_sem] theorem T8f2v (cs) : fieldA Tryd.prog 8 2 (.agg cs) = takeT Tryd.prog 4 (cs.drop 2) := fi_agg (by kernel_rfl) cs
@[go_sem] theorem T8f3p (k g off) : fieldAddrA Tryd.prog 8 3 (.ptr k g off) = some (.ptr k g (off + 3)) := fa_ptr (s := 0) (ft := 6) (by kernel_rfl) (by kernel_rfl) k g off
@[go_sem] theorem T8f3q (cs) : fieldAddrA Tryd.prog 8 3 (.fptr cs) = some (.fptr (cs.drop 3)) := fa_fptr (s := 0) (ft := 6) (by kernel_rfl) (by kernel_rfl) cs
@[go_sem] theorem T8f3v (cs) : fieldA Tryd.prog 8 3 (.agg cs) = takeT Tryd.prog 6 (cs.drop 3) := fi_agg (by kernel_rfl) cs
@[go_sem] theorem T8bd (xs) : aBuild Tryd.prog 8 xs = (fillA (fun i => ([(0, 1), (1, 1), (2, 1), (3, 1)] : List (Nat × Nat))[i]?) [AV.int .i64 0, AV.int .i64 0, AV.bool false, AV.int .u8 0] xs).map .agg := by kernel_rfl
@[go_sem] theorem T8lf : eqLeaves Tryd.prog 8 = some [Leaf.int, Leaf.int, Leaf.bool, Leaf.int] := by kernel_rfl
@[go_sem] theorem T9s : tSize Tryd.prog 9 = some 1 := by kernel_rfl
@[go_sem] theorem T9a : tAgg Tryd.prog 9 = some false := by kernel_rfl
@[go_sem] theorem T9z : tZero Tryd.prog 9 = some [AV.str []] := by kernel_rfl
@[go_sem] theorem T9ix (x i) : aIndex Tryd.prog 9 (.str x) i = if 0 ≤ i then (x[i.toNat]?).map fun b => .int .u8 b.toNat else none := ixv_str (by kernel_rfl) x i
@[go_sem] theorem T9sl (x lo hi) : aSlice Tryd.prog 9 (.str x) lo hi = if 0 ≤ lo.getD 0 ∧ lo.getD 0 ≤ hi.getD x.length ∧ hi.getD x.length ≤ x.length then some (.str ((x.take (hi.getD x.length).toNat).drop (lo.getD 0).toNat)) else none := sl_str (by kernel_rfl) x lo hi
@[go_sem] theorem T9ln (o x) : aLen Tryd.prog o 9 (.str x) = some (.int .i64 x.length) := ln_str (by kernel_rfl) o x
@[go_sem] theorem T9u : Tryd.prog.underlying 9 = some .string := by kernel_rfl
@[go_sem] theorem T10s : tSize Tryd.prog 10 = some 1 := by kernel_rfl
@[go_sem] theorem T10a : tAgg Tryd.prog 10 = some false := by kernel_rfl
@[go_sem] theorem T10z : tZero Tryd.prog 10 = some [AV.str []] := by kernel_rfl
@[go_sem] theorem T10ix (x i) : aIndex Tryd.prog 10 (.str x) i = if 0 ≤ i then (x[i.toNat]?).map fun b => .int .u8 b.toNat else none := ixv_str (by kernel_rfl) x i
@[go_sem] theorem T10sl (x lo hi) : aSlice Tryd.prog 10 (.str x) lo hi = if 0 ≤ lo.getD 0 ∧ lo.getD 0 ≤ hi.getD x.length ∧ hi.getD x.length ≤ x.length then some (.str ((x.take (hi.getD x.length).toNat).drop (lo.getD 0).toNat)) else none := sl_str (by kernel_rfl) x lo hi
@[go_sem] theorem T10ln (o x) : aLen Tryd.prog o 10 (.str x) = some (.int .i64 x.length) := ln_str (by kernel_rfl) o x
@[go_sem] theorem T10u : Tryd.prog.underlying 10 = some .string := by kernel_rfl
@[go_sem] theorem T11s : tSize Tryd.prog 11 = some 1 := by kernel_rfl
@[go_sem] theorem T11a : tAgg Tryd.prog 11 = some false := by kernel_rfl
@[go_sem] theorem T11z : tZero Tryd.prog 11 = some [AV.str []] := by kernel_rfl
@[go_sem] theorem T11ix (x i) : aIndex Tryd.prog 11 (.str x) i = if 0 ≤ i then (x[i.toNat]?).map fun b => .int .u8 b.toNat else none := ixv_str (by kernel_rfl) x i
@[go_sem] theorem T11sl (x lo hi) : aSlice Tryd.prog 11 (.str x) lo hi = if 0 ≤ lo.getD 0 ∧ lo.getD 0 ≤ hi.getD x.length ∧ hi.getD x.length ≤ x.length then some (.str ((x.take (hi.getD x.length).toNat).drop (lo.getD 0).toNat)) else none := sl_str (by kernel_rfl) x lo hi
@[go_sem] theorem T11ln (o x) : aLen Tryd.prog o 11 (.str x) = some (.int .i64 x.length) := ln_str (by kernel_rfl) o x
@[go_sem] theorem T11u : Tryd.prog.underlying 11 = some .string := by kernel_rfl
@[go_sem] theorem T12s : tSize Tryd.prog 12 = some 1 := by kernel_rfl
@[go_sem] theorem T12a : tAgg Tryd.prog 12 = some false := by kernel_rfl
@[go_sem] theorem T12z : tZero Tryd.prog 12 = some [AV.int .u64 0] := by kernel_rfl
@[go_sem] theorem T12u : Tryd.prog.underlying 12 = some (.int .u64) := by kernel_rfl
@[go_sem] theorem T13s : tSize Tryd.prog 13 = some 2 := by kernel_rfl
@[go_sem] theorem T13a : tAgg Tryd.prog 13 = some true := by kernel_rfl
@[go_sem] theorem T13z : tZero Tryd.prog 13 = some [AV.str [], AV.int .u64 0] := by kernel_rfl
@[go_sem] theorem T13f0p (k g off) : fieldAddrA Tryd.prog 13 0 (.ptr k g off) = some (.ptr k g (off + 0)) := fa_ptr (s := 0) (ft := 9) (by kernel_rfl) (by kernel_rfl) k g off
@[go_sem] theorem T13f0q (cs) : fieldAddrA Tryd.prog 13 0 (.fptr cs) = some (.fptr (cs.drop 0)) := fa_fptr (s := 0) (ft := 9) (by kernel_rfl) (by kernel_rfl) cs
@[go_sem] theorem T13f0v (cs) : fieldA Tryd.prog 13 0 (.agg cs) = takeT Tryd.prog 9 (cs.drop 0) := fi_agg (by kernel_rfl) cs
@[go_sem] theorem T13f1p (k g off) : fieldAddrA Tryd.prog 13 1 (.ptr k g off) = some (.ptr k g (off + 1)) := fa_ptr (s := 0) (ft := 12) (by kernel_rfl) (by kernel_rfl) k g off
@[go_sem] theorem T13f1q (cs) : fieldAddrA Tryd.prog 13 1 (.fptr cs) = some (.fptr (cs.drop 1)) := fa_fptr (s := 0) (ft := 12) (by kernel_rfl) (by kernel_rfl) cs
@[go_sem] theorem T13f1v (cs) : fieldA Tryd.prog 13 1 (.agg cs) = takeT Tryd.prog 12 (cs.drop 1) := fi_agg (by kernel_rfl) cs
@[go_sem] theorem T13bd (xs) : aBuild Tryd.prog 13 xs = (fillA (fun i => ([(0, 1), (1, 1)] : List (Nat × Nat))[i]?) [AV.str [], AV.int .u64 0] xs).map .agg := by kernel_rfl
@[go_sem] theorem T14s : tSize Tryd.prog 14 = some 2 := by kernel_rfl
@[go_sem] theorem T14a : tAgg Tryd.prog 14 = some true := by kernel_rfl
@[go_sem] theorem T14z : tZero Tryd.prog 14 = some [AV.str [], AV.int .u64 0] := by kernel_rfl
@[go_sem] theorem T14f0p (k g off) : fieldAddrA Tryd.prog 14 0 (.ptr k g off) = some (.ptr k g (off + 0)) := fa_ptr (s := 0) (ft := 9) (by kernel_rfl) (by kernel_rfl) k g off
@[go_sem] theorem T14f0q (cs) : fieldAddrA Tryd.prog 14 0 (.fptr cs) = some (.fptr (cs.drop 0)) := fa_fptr (s := 0) (ft := 9) (by kernel_rfl) (by kernel_rfl) cs
@[go_sem] theorem T14f0v (cs) : fieldA Tryd.prog 14 0 (.agg cs) = takeT Tryd.prog 9 (cs.drop 0) := fi_agg (by kernel_rfl) cs
@[go_sem] theorem T14f1p (k g off) : fieldAddrA Tryd.prog 14 1 (.ptr k g off) = some (.ptr k g (off + 1)) := fa_ptr (s := 0) (ft := 12) (by kernel_rfl) (by kernel_rfl) k g off
@[go_sem] theorem T14f1q (cs) : fieldAddrA Tryd.prog 14 1 (.fptr cs) = some (.fptr (cs.drop 1)) := fa_fptr (s := 0) (ft := 12) (by kernel_rfl) (by kernel_rfl) cs
@[go_sem] theorem T14f1v (cs) : fieldA Tryd.prog 14 1 (.agg cs) = takeT Tryd.prog 12 (cs.drop 1) := fi_agg (by kernel_rfl) cs
@[go_sem] theorem T14bd (xs) : aBuild Tryd.prog 14 xs = (fillA (fun i => ([(0, 1), (1, 1)] : List (Nat × Nat))[i]?) [AV.str [], AV.int .u64 0] xs).map .agg := by kernel_rfl
@[go_sem] theorem T15s : tSize Tryd.prog 15 = some 1 := by kernel_rfl
@[go_sem] theorem T15a : tAgg Tryd.prog 15 = some false := by kernel_rfl
@[go_sem] theorem T15z : tZero Tryd.prog 15 = some [AV.nilp] := by kernel_rfl
@[go_sem] theorem T16s : tSize Tryd.prog 16 = some 1 := by kernel_rfl
@[go_sem] theorem T16a : tAgg Tryd.prog 16 = some false := by kernel_rfl
@[go_sem] theorem T16z : tZero Tryd.prog 16 = some [AV.nilp] := by kernel_rfl
@[go_sem] theorem T17s : tSize Tryd.prog 17 = some 1 := by kernel_rfl
@[go_sem] theorem T17a : tAgg Tryd.prog 17 = some false := by kernel_rfl
@[go_sem] theorem T17z : tZero Tryd.prog 17 = some [AV.nilp] := by kernel_rfl
@[go_sem] theorem T18s : tSize Tryd.prog 18 = some 1 := by kernel_rfl
@[go_sem] theorem T18a : tAgg Tryd.prog 18 = some true := by kernel_rfl
@[go_sem] theorem T18z : tZero Tryd.prog 18 = some [AV.nilp] := by kernel_rfl
@[go_sem] theorem T18f0p (k g off) : fieldAddrA Tryd.prog 18 0 (.ptr k g off) = some (.ptr k g (off + 0)) := fa_ptr (s := 0) (ft := 17) (by kernel_rfl) (by kernel_rfl) k g off
@[go_sem] theorem T18f0q (cs) : fieldAddrA Tryd.prog 18 0 (.fptr cs) = some (.fptr (cs.drop 0)) := fa_fptr (s := 0) (ft := 17) (by kernel_rfl) (by kernel_rfl) cs
@[go_sem] theorem T18f0v (cs) : fieldA Tryd.prog 18 0 (.agg cs) = takeT Tryd.prog 17 (cs.drop 0) := fi_agg (by kernel_rfl) cs
@[go_sem] theorem T18bd (xs) : aBuild Tryd.prog 18 xs = (fillA (fun i => ([(0, 1)] : List (Nat × Nat))[i]?) [AV.nilp] xs).map .agg := by kernel_rfl
@[go_sem] theorem T19s : tSize Tryd.prog 19 = some 1 := by kernel_rfl
@[go_sem] theorem T19a : tAgg Tryd.prog 19 = some true := by kernel_rfl
@[go_sem] theorem T19z : tZero Tryd.prog 19 = some [AV.nilp] := by kernel_rfl
@[go_sem] theorem T19f0p (k g off) : fieldAddrA Tryd.prog 19 0 (.ptr k g off) = some (.ptr k g (off + 0)) := fa_ptr (s := 0) (ft := 17) (by kernel_rfl) (by kernel_rfl) k g off
@[go_sem] theorem T19f0q (cs) : fieldAddrA Tryd.prog 19 0 (.fptr cs) = some (.fptr (cs.drop 0)) := fa_fptr (s := 0) (ft := 17) (by kernel_rfl) (by kernel_rfl) cs
@[go_sem] theorem T19f0v (cs) : fieldA Tryd.prog 19 0 (.agg cs) = takeT Tryd.prog 17 (cs.drop 0) := fi_agg (by kernel_rfl) cs
@[go_sem] theorem T19bd (xs) : aBuild Tryd.prog 19 xs = (fillA (fun i => ([(0, 1)] : List (Nat × Nat))[i]?) [AV.nilp] xs).map .agg := by kernel_rfl
@[go_sem] theorem T21s : tSize Tryd.prog 21 = some 1 := by kernel_rfl
@[go_sem] theorem T21a : tAgg Tryd.prog 21 = some false := by kernel_rfl
@[go_sem] theorem T21z : tZero Tryd.prog 21 = some [AV.int .i32 0] := by kernel_rfl
@[go_sem] theorem T21u : Tryd.prog.underlying 21 = some (.int .i32) := by kernel_rfl
@[go_sem] theorem T22s : tSize Tryd.prog 22 = some 1 := by kernel_rfl
@[go_sem] theorem T22a : tAgg Tryd.prog 22 = some false := by kernel_rfl
@[go_sem] theorem T22z : tZero Tryd.prog 22 = some [AV.nil] := by kernel_rfl
@[go_sem] theorem T22ln0 (o) : aLen Tryd.prog o 22 .nil = some (.int .i64 0) := ln_nil (e := 31) (by kernel_rfl) o
@[go_sem] theorem T22ln1 (o n cs) : aLen Tryd.prog o 22 (.sl n cs) = some (.int .i64 n) := ln_sl (e := 31) (by kernel_rfl) o n cs
@[go_sem] theorem T22ln2 (o k g off n) : aLen Tryd.prog o 22 (.ref k g off n) = some (.int .i64 n) := ln_ref (e := 31) (by kernel_rfl) o k g off n
@[go_sem] theorem T22ix1 (n cs i) : aIndexAddr Tryd.prog 22 (.sl n cs) i = if 0 ≤ i ∧ i < (n : Int) then some (.fptr (cs.drop (i.toNat * 5))) else none := ixs_sl (s := 5) (by kernel_rfl) n cs i
@[go_sem] theorem T22ix2 (k g off n i) : aIndexAddr Tryd.prog 22 (.ref k g off n) i = if 0 ≤ i ∧ i < (n : Int) then some (.ptr k g (off + i.toNat * 5)) else none := ixs_ref (s := 5) (by kernel_rfl) k g off n i
@[go_sem] theorem T22sl1 (n cs lo hi) : aSlice Tryd.prog 22 (.sl n cs) lo hi = if 0 ≤ lo.getD 0 ∧ lo.getD 0 ≤ hi.getD n ∧ hi.getD n ≤ n then some (.sl ((hi.getD n).toNat - (lo.getD 0).toNat) ((cs.take ((hi.getD n).toNat * 5)).drop ((lo.getD 0).toNat * 5))) else none := sl_sl (s := 5) (by kernel_rfl) n cs lo hi
@[go_sem] theorem T22sl2 (k g off n lo hi) : aSlice Tryd.prog 22 (.ref k g off n) lo hi = if 0 ≤ lo.getD 0 ∧ lo.getD 0 ≤ hi.getD n ∧ hi.getD n ≤ n then some (.ref k g (off + (lo.getD 0).toNat * 5) ((hi.getD n).toNat - (lo.getD 0).toNat)) else none := sl_ref (s := 4) (by kernel_rfl) k g off n lo hi
@[go_sem] theorem T22cp (k g off n x o nx) : aCopy Tryd.prog 22 (.ref k g off n) x ⟨o, nx⟩ = (srcOf o x).bind fun q => (rowIf (o k) g).bind (copyR k off n 5 q.1 q.2 o nx) := cp_ref (by kernel_rfl) k g off n x o nx
@[go_sem] theorem T22ms (tg l c o nx) : aMakeSlice Tryd.prog tg 22 l c ⟨o, nx⟩ = if 0 ≤ l ∧ l ≤ c ∧ c * 40 ≤ maxB ∧ c ≤ maxB then some (.ref tg tg 0 l.toNat, ⟨upd o tg (.row ⟨31, 5, tg, false, true, rep [AV.int .i64 0, AV.int .i64 0, AV.int .i64 0, AV.int .i64 0, AV.int .i64 0] l.toNat⟩), nx⟩) else none := ms_eq (e := 31) (s := 4) (b := 40) (z := [AV.int .i64 0, AV.int .i64 0, AV.int .i64 0, AV.int .i64 0, AV.int .i64 0]) (by kernel_rfl) (by kernel_rfl) (by kernel_rfl) (by kernel_rfl) rfl tg l c o nx
@[go_sem] theorem T22bs (tg n ps o nx) : aBuildSlice Tryd.prog tg 22 n ps ⟨o, nx⟩ = if n * 5 ≤ 16777216 then (fillA (fun i => some (i * 5, 5)) (rep [AV.int .i64 0, AV.int .i64 0, AV.int .i64 0, AV.int .i64 0, AV.int .i64 0] n) ps).map (fun cs => (.ref tg tg 0 n, ⟨upd o tg (.row ⟨31, 5, tg, false, true, cs⟩), nx⟩)) else none := bs_eq (e := 31) (s := 4) (z := [AV.int .i64 0, AV.int .i64 0, AV.int .i64 0, AV.int .i64 0, AV.int .i64 0]) (by kernel_rfl) (by kernel_rfl) (by kernel_rfl) rfl tg n ps o nx
@[go_sem] theorem T22ap (tg x y o nx) : aAppend Tryd.prog tg 22 22 x y ⟨o, nx⟩ = (srcOf o y).bind fun q => appW tg 31 5 40 x q.1 q.2 o nx := ap_eq (e := 31) (s := 4) (b := 39) (z := [AV.int .i64 0, AV.int .i64 0, AV.int .i64 0, AV.int .i64 0, AV.int .i64 0]) (by kernel_rfl) (by kernel_rfl) (by kernel_rfl) (by kernel_rfl) rfl (by kernel_rfl) tg x y o nx
@[go_sem] theorem T23s : tSize Tryd.prog 23 = some 1 := by kernel_rfl
@[go_sem] theorem T23a : tAgg Tryd.prog 23 = some false := by kernel_rfl
@[go_sem] theorem T23z : tZero Tryd.prog 23 = some [AV.nil] := by kernel_rfl
@[go_sem] theorem T23ln0 (o) : aLen Tryd.prog o 23 .nil = some (.int .i64 0) := ln_nil (e := 4) (by kernel_rfl) o
@[go_sem] theorem T23ln1 (o n cs) : aLen Tryd.prog o 23 (.sl n cs) = some (.int .i64 n) := ln_sl (e := 4) (by kernel_rfl) o n cs
@[go_sem] theorem T23ln2 (o k g off n) : aLen Tryd.prog o 23 (.ref k g off n) = some (.int .i64 n) := ln_ref (e := 4) (by kernel_rfl) o k g off n
@[go_sem] theorem T23ix1 (n cs i) : aIndexAddr Tryd.prog 23 (.sl n cs) i = if 0 ≤ i ∧ i < (n : Int) then some (.fptr (cs.drop (i.toNat * 1))) else none := ixs_sl (s := 1) (by kernel_rfl) n cs i
@[go_sem] theorem T23ix2 (k g off n i) : aIndexAddr Tryd.prog 23 (.ref k g off n) i = if 0 ≤ i ∧ i < (n : Int) then some (.ptr k g (off + i.toNat * 1)) else none := ixs_ref (s := 1) (by kernel_rfl) k g off n i
@[go_sem] theorem T23sl1 (n cs lo hi) : aSlice Tryd.prog 23 (.sl n cs) lo hi = if 0 ≤ lo.getD 0 ∧ lo.getD 0 ≤ hi.getD n ∧ hi.getD n ≤ n then some (.sl ((hi.getD n).toNat - (lo.getD 0).toNat) ((cs.take ((hi.getD n).toNat * 1)).drop ((lo.getD 0).toNat * 1))) else none := sl_sl (s := 1) (by kernel_rfl) n cs lo hi
@[go_sem] theorem T23sl2 (k g off n lo hi) : aSlice Tryd.prog 23 (.ref k g off n) lo hi = if 0 ≤ lo.getD 0 ∧ lo.getD 0 ≤ hi.getD n ∧ hi.getD n ≤ n then some (.ref k g (off + (lo.getD 0).toNat * 1) ((hi.getD n).toNat - (lo.getD 0).toNat)) else none := sl_ref (s := 0) (by kernel_rfl) k g off n lo hi
@[go_sem] theorem T23cp (k g off n x o nx) : aCopy Tryd.prog 23 (.ref k g off n) x ⟨o, nx⟩ = (srcOf o x).bind fun q => (rowIf (o k) g).bind (copyR k off n 1 q.1 q.2 o nx) := cp_ref (by kernel_rfl) k g off n x o nx
@[go_sem] theorem T23ms (tg l c o nx) : aMakeSlice Tryd.prog tg 23 l c ⟨o, nx⟩ = if 0 ≤ l ∧ l ≤ c ∧ c * 1 ≤ maxB ∧ c ≤ maxB then some (.ref tg tg 0 l.toNat, ⟨upd o tg (.row ⟨4, 1, tg, false, true, rep [AV.bool false] l.toNat⟩), nx⟩) else none := ms_eq (e := 4) (s := 0) (b := 1) (z := [AV.bool false]) (by kernel_rfl) (by kernel_rfl) (by kernel_rfl) (by kernel_rfl) rfl tg l c o nx
@[go_sem] theorem T23bs (tg n ps o nx) : aBuildSlice Tryd.prog tg 23 n ps ⟨o, nx⟩ = if n * 1 ≤ 16777216 then (fillA (fun i => some (i * 1, 1)) (rep [AV.bool false] n) ps).map (fun cs => (.ref tg tg 0 n, ⟨upd o tg (.row ⟨4, 1, tg, false, true, cs⟩), nx⟩)) else none := bs_eq (e := 4) (s := 0) (z := [AV.bool false]) (by kernel_rfl) (by kernel_rfl) (by kernel_rfl) rfl tg n ps o nx
@[go_sem] theorem T23ap (tg x y o nx) : aAppend Tryd.prog tg 23 23 x y ⟨o, nx⟩ = (srcOf o y).bind fun q => appW tg 4 1 1 x q.1 q.2 o nx := ap_eq (e := 4) (s := 0) (b := 0) (z := [AV.bool false]) (by kernel_rfl) (by kernel_rfl) (by kernel_rfl) (by kernel_rfl) rfl (by kernel_rfl) tg x y o nx
@[go_sem] theorem T24s : tSize Tryd.prog 24 = some 2 := by kernel_rfl
@[go_sem] theorem T24a : tAgg Tryd.prog 24 = some true := by kernel_rfl
@[go_sem] theorem T24z : tZero Tryd.prog 24 = some [AV.nil, AV.nil] := by kernel_rfl
@[go_sem] theorem T24f0p (k g off) : fieldAddrA Tryd.prog 24 0 (.ptr k g off) = some (.ptr k g (off + 0)) := fa_ptr (s := 0) (ft := 22) (by kernel_rfl) (by kernel_rfl) k g off
@[go_sem] theorem T24f0q (cs) : fieldAddrA Tryd.prog 24 0 (.fptr cs) = some (.fptr (cs.drop 0)) := fa_fptr (s := 0) (ft := 22) (by kernel_rfl) (by kernel_rfl) cs
@[go_sem] theorem T24f0v (cs) : fieldA Tryd.prog 24 0 (.agg cs) = takeT Tryd.prog 22 (cs.drop 0) := fi_agg (by kernel_rfl) cs
@[go_sem] theorem T24f1p (k g off) : fieldAddrA Tryd.prog 24 1 (.ptr k g off) = some (.ptr k g (off + 1)) := fa_ptr (s := 0) (ft := 23) (by kernel_rfl) (by kernel_rfl) k g off
@[go_sem] theorem T24f1q (cs) : fieldAddrA Tryd.prog 24 1 (.fptr cs) = some (.fptr (cs.drop 1)) := fa_fptr (s := 0) (ft := 23) (by kernel_rfl) (by kernel_rfl) cs
@[go_sem] theorem T24f1v (cs) : fieldA Tryd.prog 24 1 (.agg cs) = takeT Tryd.prog 23 (cs.drop 1) := fi_agg (by kernel_rfl) cs
@[go_sem] theorem T24bd (xs) : aBuild Tryd.prog 24 xs = (fillA (fun i => ([(0, 1), (1, 1)] : List (Nat × Nat))[i]?) [AV.nil, AV.nil] xs).map .agg := by kernel_rfl
@[go_sem] theorem T25s : tSize Tryd.prog 25 = some 2 := by kernel_rfl
@[go_sem] theorem T25a : tAgg Tryd.prog 25 = some true := by kernel_rfl
@[go_sem] theorem T25z : tZero Tryd.prog 25 = some [AV.nil, AV.nil] := by kernel_rfl
@[go_sem] theorem T25f0p (k g off) : fieldAddrA Tryd.prog 25 0 (.ptr k g off) = some (.ptr k g (off + 0)) := fa_ptr (s := 0) (ft := 22) (by kernel_rfl) (by kernel_rfl) k g off
@[go_sem] theorem T25f0q (cs) : fieldAddrA Tryd.prog 25 0 (.fptr cs) = some (.fptr (cs.drop 0)) := fa_fptr (s := 0) (ft := 22) (by kernel_rfl) (by kernel_rfl) cs
@[go_sem] theorem T25f0v (cs) : fieldA Tryd.prog 25 0 (.agg cs) = takeT Tryd.prog 22 (cs.drop 0) := fi_agg (by kernel_rfl) cs
@[go_sem] theorem T25f1p (k g off) : fieldAddrA Tryd.prog 25 1 (.ptr k g off) = some (.ptr k g (off + 1)) := fa_ptr (s := 0) (ft := 23) (by kernel_rfl) (by kernel_rfl) k g off
@[go_sem] theorem T25f1q (cs) : fieldAddrA Tryd.prog 25 1 (.fptr cs) = some (.fptr (cs.drop 1)) := fa_fptr (s := 0) (ft := 23) (by kernel_rfl) (by kernel_rfl) cs
@[go_sem] theorem T25f1v (cs) : fieldA Tryd.prog 25 1 (.agg cs) = takeT Tryd.prog 23 (cs.drop 1) := fi_agg (by kernel_rfl) cs
@[go_sem] theorem T25bd (xs) : aBuild Tryd.prog 25 xs = (fillA (fun i => ([(0, 1), (1, 1)] : List (Nat × Nat))[i]?) [AV.nil, AV.nil] xs).map .agg := by kernel_rfl
@[go_sem] theorem T26s : tSize Tryd.prog 26 = some 1 := by kernel_rfl
@[go_sem] theorem T26a : tAgg Tryd.prog 26 = some false := by kernel_rfl
@[go_sem] theorem T26z : tZero Tryd.prog 26 = some [AV.nil] := by kernel_rfl
@[go_sem] theorem T26ln0 (o) : aLen Tryd.prog o 26 .nil = some (.int .i64 0) := ln_nil (e := 3) (by kernel_rfl) o
@[go_sem] theorem T26ln1 (o n cs) : aLen Tryd.prog o 26 (.sl n cs) = some (.int .i64 n) := ln_sl (e := 3) (by kernel_rfl) o n cs
@[go_sem] theorem T26ln2 (o k g off n) : aLen Tryd.prog o 26 (.ref k g off n) = some (.int .i64 n) := ln_ref (e := 3) (by kernel_rfl) o k g off n
@[go_sem] theorem T26ix1 (n cs i) : aIndexAddr Tryd.prog 26 (.sl n cs) i = if 0 ≤ i ∧ i < (n : Int) then some (.fptr (cs.drop (i.toNat * 1))) else none := ixs_sl (s := 1) (by kernel_rfl) n cs i
@[go_sem] theorem T26ix2 (k g off n i) : aIndexAddr Tryd.prog 26 (.ref k g off n) i = if 0 ≤ i ∧ i < (n : Int) then some (.ptr k g (off + i.toNat * 1)) else none := ixs_ref (s := 1) (by kernel_rfl) k g off n i
@[go_sem] theorem T26sl1 (n cs lo hi) : aSlice Tryd.prog 26 (.sl n cs) lo hi = if 0 ≤ lo.getD 0 ∧ lo.getD 0 ≤ hi.getD n ∧ hi.getD n ≤ n then some (.sl ((hi.getD n).toNat - (lo.getD 0).toNat) ((cs.take ((hi.getD n).toNat * 1)).drop ((lo.getD 0).toNat * 1))) else none := sl_sl (s := 1) (by kernel_rfl) n cs lo hi
@[go_sem] theorem T26sl2 (k g off n lo hi) : aSlice Tryd.prog 26 (.ref k g off n) lo hi = if 0 ≤ lo.getD 0 ∧ lo.getD 0 ≤ hi.getD n ∧ hi.getD n ≤ n then some (.ref k g (off + (lo.getD 0).toNat * 1) ((hi.getD n).toNat - (lo.getD 0).toNat)) else none := sl_ref (s := 0) (by kernel_rfl) k g off n lo hi
@[go_sem] theorem T26cp (k g off n x o nx) : aCopy Tryd.prog 26 (.ref k g off n) x ⟨o, nx⟩ = (srcOf o x).bind fun q => (rowIf (o k) g).bind (copyR k off n 1 q.1 q.2 o nx) := cp_ref (by kernel_rfl) k g off n x o nx
@[go_sem] theorem T26ms (tg l c o nx) : aMakeSlice Tryd.prog tg 26 l c ⟨o, nx⟩ = if 0 ≤ l ∧ l ≤ c ∧ c * 8 ≤ maxB ∧ c ≤ maxB then some (.ref tg tg 0 l.toNat, ⟨upd o tg (.row ⟨3, 1, tg, false, true, rep [AV.int .i64 0] l.toNat⟩), nx⟩) else none := ms_eq (e := 3) (s := 0) (b := 8) (z := [AV.int .i64 0]) (by kernel_rfl) (by kernel_rfl) (by kernel_rfl) (by kernel_rfl) rfl tg l c o nx
@[go_sem] theorem T26bs (tg n ps o nx) : aBuildSlice Tryd.prog tg 26 n ps ⟨o, nx⟩ = if n * 1 ≤ 16777216 then (fillA (fun i => some (i * 1, 1)) (rep [AV.int .i64 0] n) ps).map (fun cs => (.ref tg tg 0 n, ⟨upd o tg (.row ⟨3, 1, tg, false, true, cs⟩), nx⟩)) else none := bs_eq (e := 3) (s := 0) (z := [AV.int .i64 0]) (by kernel_rfl) (by kernel_rfl) (by kernel_rfl) rfl tg n ps o nx
@[go_sem] theorem T26ap (tg x y o nx) : aAppend Tryd.prog tg 26 26 x y ⟨o, nx⟩ = (srcOf o y).bind fun q => appW tg 3 1 8 x q.1 q.2 o nx := ap_eq (e := 3) (s := 0) (b := 7) (z := [AV.int .i64 0]) (by kernel_rfl) (by kernel_rfl) (by kernel_rfl) (by kernel_rfl) rfl (by kernel_rfl) tg x y o nx
@[go_sem] theorem T31s : tSize Tryd.prog 31 = some 5 := by kernel_rfl
@[go_sem] theorem T31a : tAgg Tryd.prog 31 = some true := by kernel_rfl
@[go_sem] theorem T31z : tZero Tryd.prog 31 = some [AV.int .i64 0, AV.int .i64 0, AV.int .i64 0, AV.int .i64 0, AV.int .i64 0] := by kernel_rfl
@[go_sem] theorem T31ln (o x) : aLen Tryd.prog o 31 x = some (.int .i64 5) := ln_arr (e := 3) (by kernel_rfl) o x
@[go_sem] theorem T31ix1 (cs i) : aIndexAddr Tryd.prog 31 (.fptr cs) i = if 0 ≤ i ∧ i < 5 then some (.fptr (cs.drop (i.toNat * 1))) else none := ixa_fptr (n := 5) (e := 3) (s := 1) (by kernel_rfl) (by kernel_rfl) cs i
@[go_sem] theorem T31ix2 (k g off i) : aIndexAddr Tryd.prog 31 (.ptr k g off) i = if 0 ≤ i ∧ i < 5 then some (.ptr k g (off + i.toNat * 1)) else none := ixa_ptr (n := 5) (e := 3) (s := 1) (by kernel_rfl) (by kernel_rfl) k g off i
@[go_sem] theorem T31iv (cs i) : aIndex Tryd.prog 31 (.agg cs) i = if 0 ≤ i ∧ i < 5 then takeT Tryd.prog 3 (cs.drop (i.toNat * 1)) else none := ixv_agg (n := 5) (e := 3) (s := 1) (by kernel_rfl) (by kernel_rfl) cs i
@[go_sem] theorem T31bd (xs) : aBuild Tryd.prog 31 xs = (fillA (fun i => some (i * 1, 1)) [AV.int .i64 0, AV.int .i64 0, AV.int .i64 0, AV.int .i64 0, AV.int .i64 0] xs).map .agg := bd_array (n := 5) (e := 3) (by kernel_rfl) (by kernel_rfl) (by kernel_rfl) xs
@[go_sem] theorem T31lf : eqLeaves Tryd.prog 31 = some [Leaf.int, Leaf.int, Leaf.int, Leaf.int, Leaf.int] := by kernel_rfl
@[go_sem] theorem T34s : tSize Tryd.prog 34 = some 1 := by kernel_rfl
@[go_sem] theorem T34a : tAgg Tryd.prog 34 = some false := by kernel_rfl
@[go_sem] theorem T34z : tZero Tryd.prog 34 = some [AV.nil] := by kernel_rfl
@[go_sem] theorem T34ln0 (o) : aLen Tryd.prog o 34 .nil = some (.int .i64 0) := ln_nil (e := 26) (by kernel_rfl) o
@[go_sem] theorem T34ln1 (o n cs) : aLen Tryd.prog o 34 (.sl n cs) = some (.int .i64 n) := ln_sl (e := 26) (by kernel_rfl) o n cs
@[go_sem] theorem T34ln2 (o k g off n) : aLen Tryd.prog o 34 (.ref k g off n) = some (.int .i64 n) := ln_ref (e := 26) (by kernel_rfl) o k g off n
@[go_sem] theorem T34ix1 (n cs i) : aIndexAddr Tryd.prog 34 (.sl n cs) i = if 0 ≤ i ∧ i < (n : Int) then some (.fptr (cs.drop (i.toNat * 1))) else none := ixs_sl (s := 1) (by kernel_rfl) n cs i
@[go_sem] theorem T34ix2 (k g off n i) : aIndexAddr Tryd.prog 34 (.ref k g off n) i = if 0 ≤ i ∧ i < (n : Int) then some (.ptr k g (off + i.toNat * 1)) else none := ixs_ref (s := 1) (by kernel_rfl) k g off n i
@[go_sem] theorem T34sl1 (n cs lo hi) : aSlice Tryd.prog 34 (.sl n cs) lo hi = if 0 ≤ lo.getD 0 ∧ lo.getD 0 ≤ hi.getD n ∧ hi.getD n ≤ n then some (.sl ((hi.getD n).toNat - (lo.getD 0).toNat) ((cs.take ((hi.getD n).toNat * 1)).drop ((lo.getD 0).toNat * 1))) else none := sl_sl (s := 1) (by kernel_rfl) n cs lo hi
@[go_sem] theorem T34sl2 (k g off n lo hi) : aSlice Tryd.prog 34 (.ref k g off n) lo hi = if 0 ≤ lo.getD 0 ∧ lo.getD 0 ≤ hi.getD n ∧ hi.getD n ≤ n then some (.ref k g (off + (lo.getD 0).toNat * 1) ((hi.getD n).toNat - (lo.getD 0).toNat)) else none := sl_ref (s := 0) (by kernel_rfl) k g off n lo hi
@[go_sem] theorem T34cp (k g off n x o nx) : aCopy Tryd.prog 34 (.ref k g off n) x ⟨o, nx⟩ = (srcOf o x).bind fun q => (rowIf (o k) g).bind (copyR k off n 1 q.1 q.2 o nx) := cp_ref (by kernel_rfl) k g off n x o nx
@[go_sem] theorem T34ms (tg l c o nx) : aMakeSlice Tryd.prog tg 34 l c ⟨o, nx⟩ = if 0 ≤ l ∧ l ≤ c ∧ c * 24 ≤ maxB ∧ c ≤ maxB then some (.ref tg tg 0 l.toNat, ⟨upd o tg (.row ⟨26, 1, tg, false, true, rep [AV.nil] l.toNat⟩), nx⟩) else none := ms_eq (e := 26) (s := 0) (b := 24) (z := [AV.nil]) (by kernel_rfl) (by kernel_rfl) (by kernel_rfl) (by kernel_rfl) rfl tg l c o nx
@[go_sem] theorem T34bs (tg n ps o nx) : aBuildSlice Tryd.prog tg 34 n ps ⟨o, nx⟩ = if n * 1 ≤ 16777216 then (fillA (fun i => some (i * 1, 1)) (rep [AV.nil] n) ps).map (fun cs => (.ref tg tg 0 n, ⟨upd o tg (.row ⟨26, 1, tg, false, true, cs⟩), nx⟩)) else none := bs_eq (e := 26) (s := 0) (z := [AV.nil]) (by kernel_rfl) (by kernel_rfl) (by kernel_rfl) rfl tg n ps o nx
@[go_sem] theorem T34ap (tg x y o nx) : aAppend Tryd.prog tg 34 34 x y ⟨o, nx⟩ = (srcOf o y).bind fun q => appW tg 26 1 24 x q.1 q.2 o nx := ap_eq (e := 26) (s := 0) (b := 23) (z := [AV.nil]) (by kernel_rfl) (by kernel_rfl) (by kernel_rfl) (by kernel_rfl) rfl (by kernel_rfl) tg x y o nx
@[go_sem] theorem T38s : tSize Tryd.prog 38 = some 1 := by kernel_rfl
@[go_sem] theorem T38a : tAgg Tryd.prog 38 = some false := by kernel_rfl
@[go_sem] theorem T38z : tZero Tryd.prog 38 = some [AV.nil] := by kernel_rfl
@[go_sem] theorem T38ln0 (o) : aLen Tryd.prog o 38 .nil = some (.int .i64 0) := ln_nil (e := 69) (by kernel_rfl) o
@[go_sem] theorem T38ln1 (o n cs) : aLen Tryd.prog o 38 (.sl n cs) = some (.int .i64 n) := ln_sl (e := 69) (by kernel_rfl) o n cs
@[go_sem] theorem T38ln2 (o k g off n) : aLen Tryd.prog o 38 (.ref k g off n) = some (.int .i64 n) := ln_ref (e := 69) (by kernel_rfl) o k g off n
@[go_sem] theorem T38ix1 (n cs i) : aIndexAddr Tryd.prog 38 (.sl n cs) i = if 0 ≤ i ∧ i < (n : Int) then some (.fptr (cs.drop (i.toNat * 3))) else none := ixs_sl (s := 3) (by kernel_rfl) n cs i
@[go_sem] theorem T38ix2 (k g off n i) : aIndexAddr Tryd.prog 38 (.ref k g off n) i = if 0 ≤ i ∧ i < (n : Int) then some (.ptr k g (off + i.toNat * 3)) else none := ixs_ref (s := 3) (by kernel_rfl) k g off n i
@[go_sem] theorem T38sl1 (n cs lo hi) : aSlice Tryd.prog 38 (.sl n cs) lo hi = if 0 ≤ lo.getD 0 ∧ lo.getD 0 ≤ hi.getD n ∧ hi.getD n ≤ n then some (.sl ((hi.getD n).toNat - (lo.getD 0).toNat) ((cs.take ((hi.getD n).toNat * 3)).drop ((lo.getD 0).toNat * 3))) else none := sl_sl (s := 3) (by kernel_rfl) n cs lo hi
@[go_sem] theorem T38sl2 (k g off n lo hi) : aSlice Tryd.prog 38 (.ref k g off n) lo hi = if 0 ≤ lo.getD 0 ∧ lo.getD 0 ≤ hi.getD n ∧ hi.getD n ≤ n then some (.ref k g (off + (lo.getD 0).toNat * 3) ((hi.getD n).toNat - (lo.getD 0).toNat)) else none := sl_ref (s := 2) (by kernel_rfl) k g off n lo hi
@[go_sem] theorem T38cp (k g off n x o nx) : aCopy Tryd.prog 38 (.ref k g off n) x ⟨o, nx⟩ = (srcOf o x).bind fun q => (rowIf (o k) g).bind (copyR k off n 3 q.1 q.2 o nx) := cp_ref (by kernel_rfl) k g off n x o nx
@[go_sem] theorem T38ms (tg l c o nx) : aMakeSlice Tryd.prog tg 38 l c ⟨o, nx⟩ = if 0 ≤ l ∧ l ≤ c ∧ c * 24 ≤ maxB ∧ c ≤ maxB then some (.ref tg tg 0 l.toNat, ⟨upd o tg (.row ⟨69, 3, tg, false, true, rep [AV.int .i64 0, AV.int .i64 0, AV.int .i64 0] l.toNat⟩), nx⟩) else none := ms_eq (e := 69) (s := 2) (b := 24) (z := [AV.int .i64 0, AV.int .i64 0, AV.int .i64 0]) (by kernel_rfl) (by kernel_rfl) (by kernel_rfl) (by kernel_rfl) rfl tg l c o nx
@[go_sem] theorem T38bs (tg n ps o nx) : aBuildSlice Tryd.prog tg 38 n ps ⟨o, nx⟩ = if n * 3 ≤ 16777216 then (fillA (fun i => some (i * 3, 3)) (rep [AV.int .i64 0, AV.int .i64 0, AV.int .i64 0] n) ps).map (fun cs => (.ref tg tg 0 n, ⟨upd o tg (.row ⟨69, 3, tg, false, true, cs⟩), nx⟩)) else none := bs_eq (e := 69) (s := 2) (z := [AV.int .i64 0, AV.int .i64 0, AV.int .i64 0]) (by kernel_rfl) (by kernel_rfl) (by kernel_rfl) rfl tg n ps o nx
@[go_sem] theorem T38ap (tg x y o nx) : aAppend Tryd.prog tg 38 38 x y ⟨o, nx⟩ = (srcOf o y).bind fun q => appW tg 69 3 24 x q.1 q.2 o nx := ap_eq (e := 69) (s := 2) (b := 23) (z := [AV.int .i64 0, AV.int .i64 0, AV.int .i64 0]) (by kernel_rfl) (by kernel_rfl) (by kernel_rfl) (by kernel_rfl) rfl (by kernel_rfl) tg x y o nx
@[go_sem] theorem T39s : tSize Tryd.prog 39 = some 1 := by kernel_rfl
@[go_sem] theorem T39a : tAgg Tryd.prog 39 = some false := by kernel_rfl
@[go_sem] theorem T39z : tZero Tryd.prog 39 = some [AV.nil] := by kernel_rfl
@[go_sem] theorem T39ln0 (o) : aLen Tryd.prog o 39 .nil = some (.int .i64 0) := ln_nil (e := 67) (by kernel_rfl) o
@[go_sem] theorem T39ln1 (o n cs) : aLen Tryd.prog o 39 (.sl n cs) = some (.int .i64 n) := ln_sl (e := 67) (by kernel_rfl) o n cs
@[go_sem] theorem T39ln2 (o k g off n) : aLen Tryd.prog o 39 (.ref k g off n) = some (.int .i64 n) := ln_ref (e := 67) (by kernel_rfl) o k g off n
@[go_sem] theorem T39ix1 (n cs i) : aIndexAddr Tryd.prog 39 (.sl n cs) i = if 0 ≤ i ∧ i < (n : Int) then some (.fptr (cs.drop (i.toNat * 2))) else none := ixs_sl (s := 2) (by kernel_rfl) n cs i
@[go_sem] theorem T39ix2 (k g off n i) : aIndexAddr Tryd.prog 39 (.ref k g off n) i = if 0 ≤ i ∧ i < (n : Int) then some (.ptr k g (off + i.toNat * 2)) else none := ixs_ref (s := 2) (by kernel_rfl) k g off n i
@[go_sem] theorem T39sl1 (n cs lo hi) : aSlice Tryd.prog 39 (.sl n cs) lo hi = if 0 ≤ lo.getD 0 ∧ lo.getD 0 ≤ hi.getD n ∧ hi.getD n ≤ n then some (.sl ((hi.getD n).toNat - (lo.getD 0).toNat) ((cs.take ((hi.getD n).toNat * 2)).drop ((lo.getD 0).toNat * 2))) else none := sl_sl (s := 2) (by kernel_rfl) n cs lo hi
@[go_sem] theorem T39sl2 (k g off n lo hi) : aSlice Tryd.prog 39 (.ref k g off n) lo hi = if 0 ≤ lo.getD 0 ∧ lo.getD 0 ≤ hi.getD n ∧ hi.getD n ≤ n then some (.ref k g (off + (lo.getD 0).toNat * 2) ((hi.getD n).toNat - (lo.getD 0).toNat)) else none := sl_ref (s := 1) (by kernel_rfl) k g off n lo hi
@[go_sem] theorem T39cp (k g off n x o nx) : aCopy Tryd.prog 39 (.ref k g off n) x ⟨o, nx⟩ = (srcOf o x).bind fun q => (rowIf (o k) g).bind (copyR k off n 2 q.1 q.2 o nx) := cp_ref (by kernel_rfl) k g off n x o nx
@[go_sem] theorem T39ms (tg l c o nx) : aMakeSlice Tryd.prog tg 39 l c ⟨o, nx⟩ = if 0 ≤ l ∧ l ≤ c ∧ c * 16 ≤ maxB ∧ c ≤ maxB then some (.ref tg tg 0 l.toNat, ⟨upd o tg (.row ⟨67, 2, tg, false, true, rep [AV.int .i64 0, AV.int .i64 0] l.toNat⟩), nx⟩) else none := ms_eq (e := 67) (s := 1) (b := 16) (z := [AV.int .i64 0, AV.int .i64 0]) (by kernel_rfl) (by kernel_rfl) (by kernel_rfl) (by kernel_rfl) rfl tg l c o nx
@[go_sem] theorem T39bs (tg n ps o nx) : aBuildSlice Tryd.prog tg 39 n ps ⟨o, nx⟩ = if n * 2 ≤ 16777216 then (fillA (fun i => some (i * 2, 2)) (rep [AV.int .i64 0, AV.int .i64 0] n) ps).map (fun cs => (.ref tg tg 0 n, ⟨upd o tg (.row ⟨67, 2, tg, false, true, cs⟩), nx⟩)) else none := bs_eq (e := 67) (s := 1) (z := [AV.int .i64 0, AV.int .i64 0]) (by kernel_rfl) (by kernel_rfl) (by kernel_rfl) rfl tg n ps o nx
@[go_sem] theorem T39ap (tg x y o nx) : aAppend Tryd.prog tg 39 39 x y ⟨o, nx⟩ = (srcOf o y).bind fun q => appW tg 67 2 16 x q.1 q.2 o nx := ap_eq (e := 67) (s := 1) (b := 15) (z := [AV.int .i64 0, AV.int .i64 0]) (by kernel_rfl) (by kernel_rfl) (by kernel_rfl) (by kernel_rfl) rfl (by kernel_rfl) tg x y o nx
@[go_sem] theorem T40s : tSize Tryd.prog 40 = some 5 := by kernel_rfl
@[go_sem] theorem T40a : tAgg Tryd.prog 40 = some true := by kernel_rfl
@[go_sem] theorem T40z : tZero Tryd.prog 40 = some [AV.int .i64 0, AV.int .i64 0, AV.int .i64 0, AV.nil, AV.nil] := by kernel_rfl
@[go_sem] theorem T40f0p (k g off) : fieldAddrA Tryd.prog 40 0 (.ptr k g off) = some (.ptr k g (off + 0)) := fa_ptr (s := 0) (ft := 3) (by kernel_rfl) (by kernel_rfl) k g off
@[go_sem] theorem T40f0q (cs) : fieldAddrA Tryd.prog 40 0 (.fptr cs) = some (.fptr (cs.drop 0)) := fa_fptr (s := 0) (ft := 3) (by kernel_rfl) (by kernel_rfl) cs
@[go_sem] theorem T40f0v (cs) : fieldA Tryd.prog 40 0 (.agg cs) = takeT Tryd.prog 3 (cs.drop 0) := fi_agg (by kernel_rfl) cs
@[go_sem] theorem T40f1p (k g off) : fieldAddrA Tryd.prog 40 1 (.ptr k g off) = some (.ptr k g (off + 1)) := fa_ptr (s := 0) (ft := 3) (by kernel_rfl) (by kernel_rfl) k g off
@[go_sem] theorem T40f1q (cs) : fieldAddrA Tryd.prog 40 1 (.fptr cs) = some (.fptr (cs.drop 1)) := fa_fptr (s := 0) (ft := 3) (by kernel_rfl) (by kernel_rfl) cs
@[go_sem] theorem T40f1v (cs) : fieldA Tryd.prog 40 1 (.agg cs) = takeT Tryd.prog 3 (cs.drop 1) := fi_agg (by kernel_rfl) cs
@[go_sem] theorem T40f2p (k g off) : fieldAddrA Tryd.prog 40 2 (.ptr k g off) = some (.ptr k g (off + 2)) := fa_ptr (s := 0) (ft := 3) (by kernel_rfl) (by kernel_rfl) k g off
@[go_sem] theorem T40f2q (cs) : fieldAddrA Tryd.prog 40 2 (.fptr cs) = some (.fptr (cs.drop 2)) := fa_fptr (s := 0) (ft := 3) (by kernel_rfl) (by kernel_rfl) cs
@[go_sem] theorem T40f2v (cs) : fieldA Tryd.prog 40 2 (.agg cs) = takeT Tryd.prog 3 (cs.drop 2) := fi_agg (by kernel_rfl) cs
@[go_sem] theorem T40f3p (k g off) : fieldAddrA Tryd.prog 40 3 (.ptr k g off) = some (.ptr k g (off + 3)) := fa_ptr (s := 0) (ft := 38) (by kernel_rfl) (by kernel_rfl) k g off
@[go_sem] theorem T40f3q (cs) : fieldAddrA Tryd.prog 40 3 (.fptr cs) = some (.fptr (cs.drop 3)) := fa_fptr (s := 0) (ft := 38) (by kernel_rfl) (by kernel_rfl) cs
@[go_sem] theorem T40f3v (cs) : fieldA Tryd.prog 40 3 (.agg cs) = takeT Tryd.prog 38 (cs.drop 3) := fi_agg (by kernel_rfl) cs
@[go_sem] theorem T40f4p (k g off) : fieldAddrA Tryd.prog 40 4 (.ptr k g off) = some (.ptr k g (off + 4)) := fa_ptr (s := 0) (ft := 39) (by kernel_rfl) (by kernel_rfl) k g off
@[go_sem] theorem T40f4q (cs) : fieldAddrA Tryd.prog 40 4 (.fptr cs) = some (.fptr (cs.drop 4)) := fa_fptr (s := 0) (ft := 39) (by kernel_rfl) (by kernel_rfl) cs
@[go_sem] theorem T40f4v (cs) : fieldA Tryd.prog 40 4 (.agg cs) = takeT Tryd.prog 39 (cs.drop 4) := fi_agg (by kernel_rfl) cs
@[go_sem] theorem T40bd (xs) : aBuild Tryd.prog 40 xs = (fillA (fun i => ([(0, 1), (1, 1), (2, 1), (3, 1), (4, 1)] : List (Nat × Nat))[i]?) [AV.int .i64 0, AV.int .i64 0, AV.int .i64 0, AV.nil, AV.nil] xs).map .agg := by kernel_rfl
@[go_sem] theorem T41s : tSize Tryd.prog 41 = some 5 := by kernel_rfl
@[go_sem] theorem T41a : tAgg Tryd.prog 41 = some true := by kernel_rfl
@[go_sem] theorem T41z : tZero Tryd.prog 41 = some [AV.int .i64 0, AV.int .i64 0, AV.int .i64 0, AV.nil, AV.nil] := by kernel_rfl
@[go_sem] theorem T41f0p (k g off) : fieldAddrA Tryd.prog 41 0 (.ptr k g off) = some (.ptr k g (off + 0)) := fa_ptr (s := 0) (ft := 3) (by kernel_rfl) (by kernel_rfl) k g off
@[go_sem] theorem T41f0q (cs) : fieldAddrA Tryd.prog 41 0 (.fptr cs) = some (.fptr (cs.drop 0)) := fa_fptr (s := 0) (ft := 3) (by kernel_rfl) (by kernel_rfl) cs
@[go_sem] theorem T41f0v (cs) : fieldA Tryd.prog 41 0 (.agg cs) = takeT Tryd.prog 3 (cs.drop 0) := fi_agg (by kernel_rfl) cs
@[go_sem] theorem T41f1p (k g off) : fieldAddrA Tryd.prog 41 1 (.ptr k g off) = some (.ptr k g (off + 1)) := fa_ptr (s := 0) (ft := 3) (by kernel_rfl) (by kernel_rfl) k g off
@[go_sem] theorem T41f1q (cs) : fieldAddrA Tryd.prog 41 1 (.fptr cs) = some (.fptr (cs.drop 1)) := fa_fptr (s := 0) (ft := 3) (by kernel_rfl) (by kernel_rfl) cs
@[go_sem] theorem T41f1v (cs) : fieldA Tryd.prog 41 1 (.agg cs) = takeT Tryd.prog 3 (cs.drop 1) := fi_agg (by kernel_rfl) cs
@[go_sem] theorem T41f2p (k g off) : fieldAddrA Tryd.prog 41 2 (.ptr k g off) = some (.ptr k g (off + 2)) := fa_ptr (s := 0) (ft := 3) (by kernel_rfl) (by kernel_rfl) k g off
@[go_sem] theorem T41f2q (cs) : fieldAddrA Tryd.prog 41 2 (.fptr cs) = some (.fptr (cs.drop 2)) := fa_fptr (s := 0) (ft := 3) (by kernel_rfl) (by kernel_rfl) cs
@[go_sem] theorem T41f2v (cs) : fieldA Tryd.prog 41 2 (.agg cs) = takeT Tryd.prog 3 (cs.drop 2) := fi_agg (by kernel_rfl) cs
@[go_sem] theorem T41f3p (k g off) : fieldAddrA Tryd.prog 41 3 (.ptr k g off) = some (.ptr k g (off + 3)) := fa_ptr (s := 0) (ft := 38) (by kernel_rfl) (by kernel_rfl) k g off
@[go_sem] theorem T41f3q (cs) : fieldAddrA Tryd.prog 41 3 (.fptr cs) = some (.fptr (cs.drop 3)) := fa_fptr (s := 0) (ft := 38) (by kernel_rfl) (by kernel_rfl) cs
@[go_sem] theorem T41f3v (cs) : fieldA Tryd.prog 41 3 (.agg cs) = takeT Tryd.prog 38 (cs.drop 3) := fi_agg (by kernel_rfl) cs
@[go_sem] theorem T41f4p (k g off) : fieldAddrA Tryd.prog 41 4 (.ptr k g off) = some (.ptr k g (off + 4)) := fa_ptr (s := 0) (ft := 39) (by kernel_rfl) (by kernel_rfl) k g off
@[go_sem] theorem T41f4q (cs) : fieldAddrA Tryd.prog 41 4 (.fptr cs) = some (.fptr (cs.drop 4)) := fa_fptr (s := 0) (ft := 39) (by kernel_rfl) (by kernel_rfl) cs
@[go_sem] theorem T41f4v (cs) : fieldA Tryd.prog 41 4 (.agg cs) = takeT Tryd.prog 39 (cs.drop 4) := fi_agg (by kernel_rfl) cs
@[go_sem] theorem T41bd (xs) : aBuild Tryd.prog 41 xs = (fillA (fun i => ([(0, 1), (1, 1), (2, 1), (3, 1), (4, 1)] : List (Nat × Nat))[i]?) [AV.int .i64 0, AV.int .i64 0, AV.int .i64 0, AV.nil, AV.nil] xs).map .agg := by kernel_rfl
@[go_sem] theorem T43s : tSize Tryd.prog 43 = some 1 := by kernel_rfl
@[go_sem] theorem T43a : tAgg Tryd.prog 43 = some false := by kernel_rfl
@[go_sem] theorem T43z : tZero Tryd.prog 43 = some [AV.int .i64 0] := by kernel_rfl
@[go_sem] theorem T43u : Tryd.prog.underlying 43 = some (.int .i64) := by kernel_rfl
@[go_sem] theorem T50s : tSize Tryd.prog 50 = some 1 := by kernel_rfl
@[go_sem] theorem T50a : tAgg Tryd.prog 50 = some false := by kernel_rfl
@[go_sem] theorem T50z : tZero Tryd.prog 50 = some [AV.nil] := by kernel_rfl
@[go_sem] theorem T50ln0 (o) : aLen Tryd.prog o 50 .nil = some (.int .i64 0) := ln_nil (e := 85) (by kernel_rfl) o
@[go_sem] theorem T50ln1 (o n cs) : aLen Tryd.prog o 50 (.sl n cs) = some (.int .i64 n) := ln_sl (e := 85) (by kernel_rfl) o n cs
@[go_sem] theorem T50ln2 (o k g off n) : aLen Tryd.prog o 50 (.ref k g off n) = some (.int .i64 n) := ln_ref (e := 85) (by kernel_rfl) o k g off n
@[go_sem] theorem T50ix1 (n cs i) : aIndexAddr Tryd.prog 50 (.sl n cs) i = if 0 ≤ i ∧ i < (n : Int) then some (.fptr (cs.drop (i.toNat * 3))) else none := ixs_sl (s := 3) (by kernel_rfl) n cs i
@[go_sem] theorem T50ix2 (k g off n i) : aIndexAddr Tryd.prog 50 (.ref k g off n) i = if 0 ≤ i ∧ i < (n : Int) then some (.ptr k g (off + i.toNat * 3)) else none := ixs_ref (s := 3) (by kernel_rfl) k g off n i
@[go_sem] theorem T50sl1 (n cs lo hi) : aSlice Tryd.prog 50 (.sl n cs) lo hi = if 0 ≤ lo.getD 0 ∧ lo.getD 0 ≤ hi.getD n ∧ hi.getD n ≤ n then some (.sl ((hi.getD n).toNat - (lo.getD 0).toNat) ((cs.take ((hi.getD n).toNat * 3)).drop ((lo.getD 0).toNat * 3))) else none := sl_sl (s := 3) (by kernel_rfl) n cs lo hi
@[go_sem] theorem T50sl2 (k g off n lo hi) : aSlice Tryd.prog 50 (.ref k g off n) lo hi = if 0 ≤ lo.getD 0 ∧ lo.getD 0 ≤ hi.getD n ∧ hi.getD n ≤ n then some (.ref k g (off + (lo.getD 0).toNat * 3) ((hi.getD n).toNat - (lo.getD 0).toNat)) else none := sl_ref (s := 2) (by kernel_rfl) k g off n lo hi
@[go_sem] theorem T50cp (k g off n x o nx) : aCopy Tryd.prog 50 (.ref k g off n) x ⟨o, nx⟩ = (srcOf o x).bind fun q => (rowIf (o k) g).bind (copyR k off n 3 q.1 q.2 o nx) := cp_ref (by kernel_rfl) k g off n x o nx
@[go_sem] theorem T50ms (tg l c o nx) : aMakeSlice Tryd.prog tg 50 l c ⟨o, nx⟩ = if 0 ≤ l ∧ l ≤ c ∧ c * 40 ≤ maxB ∧ c ≤ maxB then some (.ref tg tg 0 l.toNat, ⟨upd o tg (.row ⟨85, 3, tg, false, true, rep [AV.int .i64 0, AV.int .i64 0, AV.nil] l.toNat⟩), nx⟩) else none := ms_eq (e := 85) (s := 2) (b := 40) (z := [AV.int .i64 0, AV.int .i64 0, AV.nil]) (by kernel_rfl) (by kernel_rfl) (by kernel_rfl) (by kernel_rfl) rfl tg l c o nx
@[go_sem] theorem T50bs (tg n ps o nx) : aBuildSlice Tryd.prog tg 50 n ps ⟨o, nx⟩ = if n * 3 ≤ 16777216 then (fillA (fun i => some (i * 3, 3)) (rep [AV.int .i64 0, AV.int .i64 0, AV.nil] n) ps).map (fun cs => (.ref tg tg 0 n, ⟨upd o tg (.row ⟨85, 3, tg, false, true, cs⟩), nx⟩)) else none := bs_eq (e := 85) (s := 2) (z := [AV.int .i64 0, AV.int .i64 0, AV.nil]) (by kernel_rfl) (by kernel_rfl) (by kernel_rfl) rfl tg n ps o nx
@[go_sem] theorem T50ap (tg x y o nx) : aAppend Tryd.prog tg 50 50 x y ⟨o, nx⟩ = (srcOf o y).bind fun q => appW tg 85 3 40 x q.1 q.2 o nx := ap_eq (e := 85) (s := 2) (b := 39) (z := [AV.int .i64 0, AV.int .i64 0, AV.nil]) (by kernel_rfl) (by kernel_rfl) (by kernel_rfl) (by kernel_rfl) rfl (by kernel_rfl) tg x y o nx
@[go_sem] theorem T52s : tSize Tryd.prog 52 = some 1 := by kernel_rfl
@[go_sem] theorem T52a : tAgg Tryd.prog 52 = some false := by kernel_rfl
@[go_sem] theorem T52z : tZero Tryd.prog 52 = some [AV.nil] := by kernel_rfl
@[go_sem] theorem T52ln0 (o) : aLen Tryd.prog o 52 .nil = some (.int .i64 0) := ln_nil (e := 54) (by kernel_rfl) o
@[go_sem] theorem T52ln1 (o n cs) : aLen Tryd.prog o 52 (.sl n cs) = some (.int .i64 n) := ln_sl (e := 54) (by kernel_rfl) o n cs
@[go_sem] theorem T52ln2 (o k g off n) : aLen Tryd.prog o 52 (.ref k g off n) = some (.int .i64 n) := ln_ref (e := 54) (by kernel_rfl) o k g off n
@[go_sem] theorem T52ix1 (n cs i) : aIndexAddr Tryd.prog 52 (.sl n cs) i = if 0 ≤ i ∧ i < (n : Int) then some (.fptr (cs.drop (i.toNat * 5))) else none := ixs_sl (s := 5) (by kernel_rfl) n cs i
@[go_sem] theorem T52ix2 (k g off n i) : aIndexAddr Tryd.prog 52 (.ref k g off n) i = if 0 ≤ i ∧ i < (n : Int) then some (.ptr k g (off + i.toNat * 5)) else none := ixs_ref (s := 5) (by kernel_rfl) k g off n i
@[go_sem] theorem T52sl1 (n cs lo hi) : aSlice Tryd.prog 52 (.sl n cs) lo hi = if 0 ≤ lo.getD 0 ∧ lo.getD 0 ≤ hi.getD n ∧ hi.getD n ≤ n then some (.sl ((hi.getD n).toNat - (lo.getD 0).toNat) ((cs.take ((hi.getD n).toNat * 5)).drop ((lo.getD 0).toNat * 5))) else none := sl_sl (s := 5) (by kernel_rfl) n cs lo hi
@[go_sem] theorem T52sl2 (k g off n lo hi) : aSlice Tryd.prog 52 (.ref k g off n) lo hi = if 0 ≤ lo.getD 0 ∧ lo.getD 0 ≤ hi.getD n ∧ hi.getD n ≤ n then some (.ref k g (off + (lo.getD 0).toNat * 5) ((hi.getD n).toNat - (lo.getD 0).toNat)) else none := sl_ref (s := 4) (by kernel_rfl) k g off n lo hi
@[go_sem] theorem T52cp (k g off n x o nx) : aCopy Tryd.prog 52 (.ref k g off n) x ⟨o, nx⟩ = (srcOf o x).bind fun q => (rowIf (o k) g).bind (copyR k off n 5 q.1 q.2 o nx) := cp_ref (by kernel_rfl) k g off n x o nx
@[go_sem] theorem T52ms (tg l c o nx) : aMakeSlice Tryd.prog tg 52 l c ⟨o, nx⟩ = if 0 ≤ l ∧ l ≤ c ∧ c * 56 ≤ maxB ∧ c ≤ maxB then some (.ref tg tg 0 l.toNat, ⟨upd o tg (.row ⟨54, 5, tg, false, true, rep [AV.int .i64 0, AV.int .i64 0, AV.int .i64 0, AV.int .i64 0, AV.nil] l.toNat⟩), nx⟩) else none := ms_eq (e := 54) (s := 4) (b := 56) (z := [AV.int .i64 0, AV.int .i64 0, AV.int .i64 0, AV.int .i64 0, AV.nil]) (by kernel_rfl) (by kernel_rfl) (by kernel_rfl) (by kernel_rfl) rfl tg l c o nx
@[go_sem] theorem T52bs (tg n ps o nx) : aBuildSlice Tryd.prog tg 52 n ps ⟨o, nx⟩ = if n * 5 ≤ 16777216 then (fillA (fun i => some (i * 5, 5)) (rep [AV.int .i64 0, AV.int .i64 0, AV.int .i64 0, AV.int .i64 0, AV.nil] n) ps).map (fun cs => (.ref tg tg 0 n, ⟨upd o tg (.row ⟨54, 5, tg, false, true, cs⟩), nx⟩)) else none := bs_eq (e := 54) (s := 4) (z := [AV.int .i64 0, AV.int .i64 0, AV.int .i64 0, AV.int .i64 0, AV.nil]) (by kernel_rfl) (by kernel_rfl) (by kernel_rfl) rfl tg n ps o nx
@[go_sem] theorem T52ap (tg x y o nx) : aAppend Tryd.prog tg 52 52 x y ⟨o, nx⟩ = (srcOf o y).bind fun q => appW tg 54 5 56 x q.1 q.2 o nx := ap_eq (e := 54) (s := 4) (b := 55) (z := [AV.int .i64 0, AV.int .i64 0, AV.int .i64 0, AV.int .i64 0, AV.nil]) (by kernel_rfl) (by kernel_rfl) (by kernel_rfl) (by kernel_rfl) rfl (by kernel_rfl) tg x y o nx
@[go_sem] theorem T53s : tSize Tryd.prog 53 = some 5 := by kernel_rfl
@[go_sem] theorem T53a : tAgg Tryd.prog 53 = some true := by kernel_rfl
@[go_sem] theorem T53z : tZero Tryd.prog 53 = some [AV.int .i64 0, AV.int .i64 0, AV.int .i64 0, AV.int .i64 0, AV.nil] := by kernel_rfl
@[go_sem] theorem T53f0p (k g off) : fieldAddrA Tryd.prog 53 0 (.ptr k g off) = some (.ptr k g (off + 0)) := fa_ptr (s := 0) (ft := 3) (by kernel_rfl) (by kernel_rfl) k g off
@[go_sem] theorem T53f0q (cs) : fieldAddrA Tryd.prog 53 0 (.fptr cs) = some (.fptr (cs.drop 0)) := fa_fptr (s := 0) (ft := 3) (by kernel_rfl) (by kernel_rfl) cs
@[go_sem] theorem T53f0v (cs) : fieldA Tryd.prog 53 0 (.agg cs) = takeT Tryd.prog 3 (cs.drop 0) := fi_agg (by kernel_rfl) cs
@[go_sem] theorem T53f1p (k g off) : fieldAddrA Tryd.prog 53 1 (.ptr k g off) = some (.ptr k g (off + 1)) := fa_ptr (s := 0) (ft := 3) (by kernel_rfl) (by kernel_rfl) k g off
@[go_sem] theorem T53f1q (cs) : fieldAddrA Tryd.prog 53 1 (.fptr cs) = some (.fptr (cs.drop 1)) := fa_fptr (s := 0) (ft := 3) (by kernel_rfl) (by kernel_rfl) cs
@[go_sem] theorem T53f1v (cs) : fieldA Tryd.prog 53 1 (.agg cs) = takeT Tryd.prog 3 (cs.drop 1) := fi_agg (by kernel_rfl) cs
@[go_sem] theorem T53f2p (k g off) : fieldAddrA Tryd.prog 53 2 (.ptr k g off) = some (.ptr k g (off + 2)) := fa_ptr (s := 0) (ft := 3) (by kernel_rfl) (by kernel_rfl) k g off
@[go_sem] theorem T53f2q (cs) : fieldAddrA Tryd.prog 53 2 (.fptr cs) = some (.fptr (cs.drop 2)) := fa_fptr (s := 0) (ft := 3) (by kernel_rfl) (by kernel_rfl) cs
@[go_sem] theorem T53f2v (cs) : fieldA Tryd.prog 53 2 (.agg cs) = takeT Tryd.prog 3 (cs.drop 2) := fi_agg (by kernel_rfl) cs
@[go_sem] theorem T53f3p (k g off) : fieldAddrA Tryd.prog 53 3 (.ptr k g off) = some (.ptr k g (off + 3)) := fa_ptr (s := 0) (ft := 3) (by kernel_rfl) (by kernel_rfl) k g off
@[go_sem] theorem T53f3q (cs) : fieldAddrA Tryd.prog 53 3 (.fptr cs) = some (.fptr (cs.drop 3)) := fa_fptr (s := 0) (ft := 3) (by kernel_rfl) (by kernel_rfl) cs
@[go_sem] theorem T53f3v (cs) : fieldA Tryd.prog 53 3 (.agg cs) = takeT Tryd.prog 3 (cs.drop 3) := fi_agg (by kernel_rfl) cs
@[go_sem] theorem T53f4p (k g off) : fieldAddrA Tryd.prog 53 4 (.ptr k g off) = some (.ptr k g (off + 4)) := fa_ptr (s := 0) (ft := 52) (by kernel_rfl) (by kernel_rfl) k g off
@[go_sem] theorem T53f4q (cs) : fieldAddrA Tryd.prog 53 4 (.fptr cs) = some (.fptr (cs.drop 4)) := fa_fptr (s := 0) (ft := 52) (by kernel_rfl) (by kernel_rfl) cs
@[go_sem] theorem T53f4v (cs) : fieldA Tryd.prog 53 4 (.agg cs) = takeT Tryd.prog 52 (cs.drop 4) := fi_agg (by kernel_rfl) cs
@[go_sem] theorem T53bd (xs) : aBuild Tryd.prog 53 xs = (fillA (fun i => ([(0, 1), (1, 1), (2, 1), (3, 1), (4, 1)] : List (Nat × Nat))[i]?) [AV.int .i64 0, AV.int .i64 0, AV.int .i64 0, AV.int .i64 0, AV.nil] xs).map .agg := by kernel_rfl
@[go_sem] theorem T54s : tSize Tryd.prog 54 = some 5 := by kernel_rfl
@[go_sem] theorem T54a : tAgg Tryd.prog 54 = some true := by kernel_rfl
@[go_sem] theorem T54z : tZero Tryd.prog 54 = some [AV.int .i64 0, AV.int .i64 0, AV.int .i64 0, AV.int .i64 0, AV.nil] := by kernel_rfl
@[go_sem] theorem T54f0p (k g off) : fieldAddrA Tryd.prog 54 0 (.ptr k g off) = some (.ptr k g (off + 0)) := fa_ptr (s := 0) (ft := 3) (by kernel_rfl) (by kernel_rfl) k g off
@[go_sem] theorem T54f0q (cs) : fieldAddrA Tryd.prog 54 0 (.fptr cs) = some (.fptr (cs.drop 0)) := fa_fptr (s := 0) (ft := 3) (by kernel_rfl) (by kernel_rfl) cs
@[go_sem] theorem T54f0v (cs) : fieldA Tryd.prog 54 0 (.agg cs) = takeT Tryd.prog 3 (cs.drop 0) := fi_agg (by kernel_rfl) cs
@[go_sem] theorem T54f1p (k g off) : fieldAddrA Tryd.prog 54 1 (.ptr k g off) = some (.ptr k g (off + 1)) := fa_ptr (s := 0) (ft := 3) (by kernel_rfl) (by kernel_rfl) k g off
@[go_sem] theorem T54f1q (cs) : fieldAddrA Tryd.prog 54 1 (.fptr cs) = some (.fptr (cs.drop 1)) := fa_fptr (s := 0) (ft := 3) (by kernel_rfl) (by kernel_rfl) cs
@[go_sem] theorem T54f1v (cs) : fieldA Tryd.prog 54 1 (.agg cs) = takeT Tryd.prog 3 (cs.drop 1) := fi_agg (by kernel_rfl) cs
@[go_sem] theorem T54f2p (k g off) : fieldAddrA Tryd.prog 54 2 (.ptr k g off) = some (.ptr k g (off + 2)) := fa_ptr (s := 0) (ft := 3) (by kernel_rfl) (by kernel_rfl) k g off
@[go_sem] theorem T54f2q (cs) : fieldAddrA Tryd.prog 54 2 (.fptr cs) = some (.fptr (cs.drop 2)) := fa_fptr (s := 0) (ft := 3) (by kernel_rfl) (by kernel_rfl) cs
@[go_sem] theorem T54f2v (cs) : fieldA Tryd.prog 54 2 (.agg cs) = takeT Tryd.prog 3 (cs.drop 2) := fi_agg (by kernel_rfl) cs
@[go_sem] theorem T54f3p (k g off) : fieldAddrA Tryd.prog 54 3 (.ptr k g off) = some (.ptr k g (off + 3)) := fa_ptr (s := 0) (ft := 3) (by kernel_rfl) (by kernel_rfl) k g off
@[go_sem] theorem T54f3q (cs) : fieldAddrA Tryd.prog 54 3 (.fptr cs) = some (.fptr (cs.drop 3)) := fa_fptr (s := 0) (ft := 3) (by kernel_rfl) (by kernel_rfl) cs
@[go_sem] theorem T54f3v (cs) : fieldA Tryd.prog 54 3 (.agg cs) = takeT Tryd.prog 3 (cs.drop 3) := fi_agg (by kernel_rfl) cs
@[go_sem] theorem T54f4p (k g off) : fieldAddrA Tryd.prog 54 4 (.ptr k g off) = some (.ptr k g (off + 4)) := fa_ptr (s := 0) (ft := 52) (by kernel_rfl) (by kernel_rfl) k g off
@[go_sem] theorem T54f4q (cs) : fieldAddrA Tryd.prog 54 4 (.fptr cs) = some (.fptr (cs.drop 4)) := fa_fptr (s := 0) (ft := 52) (by kernel_rfl) (by kernel_rfl) cs
@[go_sem] theorem T54f4v (cs) : fieldA Tryd.prog 54 4 (.agg cs) = takeT Tryd.prog 52 (cs.drop 4) := fi_agg (by kernel_rfl) cs
@[go_sem] theorem T54bd (xs) : aBuild Tryd.prog 54 xs = (fillA (fun i => ([(0, 1), (1, 1), (2, 1), (3, 1), (4, 1)] : List (Nat × Nat))[i]?) [AV.int .i64 0, AV.int .i64 0, AV.int .i64 0, AV.int .i64 0, AV.nil] xs).map .agg := by kernel_rfl
@[go_sem] theorem T63s : tSize Tryd.prog 63 = some 1 := by kernel_rfl
@[go_sem] theorem T63a : tAgg Tryd.prog 63 = some false := by kernel_rfl
@[go_sem] theorem T63z : tZero Tryd.prog 63 = some [AV.int .u64 0] := by kernel_rfl
@[go_sem] theorem T63u : Tryd.prog.underlying 63 = some (.int .u64) := by kernel_rfl
@[go_sem] theorem T66s : tSize Tryd.prog 66 = some 2 := by kernel_rfl
@[go_sem] theorem T66a : tAgg Tryd.prog 66 = some true := by kernel_rfl
@[go_sem] theorem T66z : tZero Tryd.prog 66 = some [AV.nil, AV.nil] := by kernel_rfl
@[go_sem] theorem T66f0p (k g off) : fieldAddrA Tryd.prog 66 0 (.ptr k g off) = some (.ptr k g (off + 0)) := fa_ptr (s := 0) (ft := 22) (by kernel_rfl) (by kernel_rfl) k g off
@[go_sem] theorem T66f0q (cs) : fieldAddrA Tryd.prog 66 0 (.fptr cs) = some (.fptr (cs.drop 0)) := fa_fptr (s := 0) (ft := 22) (by kernel_rfl) (by kernel_rfl) cs
@[go_sem] theorem T66f0v (cs) : fieldA Tryd.prog 66 0 (.agg cs) = takeT Tryd.prog 22 (cs.drop 0) := fi_agg (by kernel_rfl) cs
@[go_sem] theorem T66f1p (k g off) : fieldAddrA Tryd.prog 66 1 (.ptr k g off) = some (.ptr k g (off + 1)) := fa_ptr (s := 0) (ft := 23) (by kernel_rfl) (by kernel_rfl) k g off
@[go_sem] theorem T66f1q (cs) : fieldAddrA Tryd.prog 66 1 (.fptr cs) = some (.fptr (cs.drop 1)) := fa_fptr (s := 0) (ft := 23) (by kernel_rfl) (by kernel_rfl) cs
@[go_sem] theorem T66f1v (cs) : fieldA Tryd.prog 66 1 (.agg cs) = takeT Tryd.prog 23 (cs.drop 1) := fi_agg (by kernel_rfl) cs
@[go_sem] theorem T66bd (xs) : aBuild Tryd.prog 66 xs = (fillA (fun i => ([(0, 1), (1, 1)] : List (Nat × Nat))[i]?) [AV.nil, AV.nil] xs).map .agg := by kernel_rfl
@[go_sem] theorem T67s : tSize Tryd.prog 67 = some 2 := by kernel_rfl
@[go_sem] theorem T67a : tAgg Tryd.prog 67 = some true := by kernel_rfl
@[go_sem] theorem T67z : tZero Tryd.prog 67 = some [AV.int .i64 0, AV.int .i64 0] := by kernel_rfl
@[go_sem] theorem T67ln (o x) : aLen Tryd.prog o 67 x = some (.int .i64 2) := ln_arr (e := 3) (by kernel_rfl) o x
@[go_sem] theorem T67ix1 (cs i) : aIndexAddr Tryd.prog 67 (.fptr cs) i = if 0 ≤ i ∧ i < 2 then some (.fptr (cs.drop (i.toNat * 1))) else none := ixa_fptr (n := 2) (e := 3) (s := 1) (by kernel_rfl) (by kernel_rfl) cs i
@[go_sem] theorem T67ix2 (k g off i) : aIndexAddr Tryd.prog 67 (.ptr k g off) i = if 0 ≤ i ∧ i < 2 then some (.ptr k g (off + i.toNat * 1)) else none := ixa_ptr (n := 2) (e := 3) (s := 1) (by kernel_rfl) (by kernel_rfl) k g off i
@[go_sem] theorem T67iv (cs i) : aIndex Tryd.prog 67 (.agg cs) i = if 0 ≤ i ∧ i < 2 then takeT Tryd.prog 3 (cs.drop (i.toNat * 1)) else none := ixv_agg (n := 2) (e := 3) (s := 1) (by kernel_rfl) (by kernel_rfl) cs i
@[go_sem] theorem T67bd (xs) : aBuild Tryd.prog 67 xs = (fillA (fun i => some (i * 1, 1)) [AV.int .i64 0, AV.int .i64 0] xs).map .agg := bd_array (n := 2) (e := 3) (by kernel_rfl) (by kernel_rfl) (by kernel_rfl) xs
@[go_sem] theorem T67lf : eqLeaves Tryd.prog 67 = some [Leaf.int, Leaf.int] := by kernel_rfl
@[go_sem] theorem T68s : tSize Tryd.prog 68 = some 3 := by kernel_rfl
@[go_sem] theorem T68a : tAgg Tryd.prog 68 = some true := by kernel_rfl
@[go_sem] theorem T68z : tZero Tryd.prog 68 = some [AV.int .i64 0, AV.int .i64 0, AV.int .i64 0] := by kernel_rfl
@[go_sem] theorem T68f0p (k g off) : fieldAddrA Tryd.prog 68 0 (.ptr k g off) = some (.ptr k g (off + 0)) := fa_ptr (s := 0) (ft := 3) (by kernel_rfl) (by kernel_rfl) k g off
@[go_sem] theorem T68f0q (cs) : fieldAddrA Tryd.prog 68 0 (.fptr cs) = some (.fptr (cs.drop 0)) := fa_fptr (s := 0) (ft := 3) (by kernel_rfl) (by kernel_rfl) cs
@[go_sem] theorem T68f0v (cs) : fieldA Tryd.prog 68 0 (.agg cs) = takeT Tryd.prog 3 (cs.drop 0) := fi_agg (by kernel_rfl) cs
@[go_sem] theorem T68f1p (k g off) : fieldAddrA Tryd.prog 68 1 (.ptr k g off) = some (.ptr k g (off + 1)) := fa_ptr (s := 0) (ft := 3) (by kernel_rfl) (by kernel_rfl) k g off
@[go_sem] theorem T68f1q (cs) : fieldAddrA Tryd.prog 68 1 (.fptr cs) = some (.fptr (cs.drop 1)) := fa_fptr (s := 0) (ft := 3) (by kernel_rfl) (by kernel_rfl) cs
@[go_sem] theorem T68f1v (cs) : fieldA Tryd.prog 68 1 (.agg cs) = takeT Tryd.prog 3 (cs.drop 1) := fi_agg (by kernel_rfl) cs
@[go_sem] theorem T68f2p (k g off) : fieldAddrA Tryd.prog 68 2 (.ptr k g off) = some (.ptr k g (off + 2)) := fa_ptr (s := 0) (ft := 3) (by kernel_rfl) (by kernel_rfl) k g off
@[go_sem] theorem T68f2q (cs) : fieldAddrA Tryd.prog 68 2 (.fptr cs) = some (.fptr (cs.drop 2)) := fa_fptr (s := 0) (ft := 3) (by kernel_rfl) (by kernel_rfl) cs
@[go_sem] theorem T68f2v (cs) : fieldA Tryd.prog 68 2 (.agg cs) = takeT Tryd.prog 3 (cs.drop 2) := fi_agg (by kernel_rfl) cs
@[go_sem] theorem T68bd (xs) : aBuild Tryd.prog 68 xs = (fillA (fun i => ([(0, 1), (1, 1), (2, 1)] : List (Nat × Nat))[i]?) [AV.int .i64 0, AV.int .i64 0, AV.int .i64 0] xs).map .agg := by kernel_rfl
@[go_sem] theorem T68lf : eqLeaves Tryd.prog 68 = some [Leaf.int, Leaf.int, Leaf.int] := by kernel_rfl
@[go_sem] theorem T69s : tSize Tryd.prog 69 = some 3 := by kernel_rfl
@[go_sem] theorem T69a : tAgg Tryd.prog 69 = some true := by kernel_rfl
@[go_sem] theorem T69z : tZero Tryd.prog 69 = some [AV.int .i64 0, AV.int .i64 0, AV.int .i64 0] := by kernel_rfl
@[go_sem] theorem T69f0p (k g off) : fieldAddrA Tryd.prog 69 0 (.ptr k g off) = some (.ptr k g (off + 0)) := fa_ptr (s := 0) (ft := 3) (by kernel_rfl) (by kernel_rfl) k g off
@[go_sem] theorem T69f0q (cs) : fieldAddrA Tryd.prog 69 0 (.fptr cs) = some (.fptr (cs.drop 0)) := fa_fptr (s := 0) (ft := 3) (by kernel_rfl) (by kernel_rfl) cs
@[go_sem] theorem T69f0v (cs) : fieldA Tryd.prog 69 0 (.agg cs) = takeT Tryd.prog 3 (cs.drop 0) := fi_agg (by kernel_rfl) cs
@[go_sem] theorem T69f1p (k g off) : fieldAddrA Tryd.prog 69 1 (.ptr k g off) = some (.ptr k g (off + 1)) := fa_ptr (s := 0) (ft := 3) (by kernel_rfl) (by kernel_rfl) k g off
@[go_sem] theorem T69f1q (cs) : fieldAddrA Tryd.prog 69 1 (.fptr cs) = some (.fptr (cs.drop 1)) := fa_fptr (s := 0) (ft := 3) (by kernel_rfl) (by kernel_rfl) cs
@[go_sem] theorem T69f1v (cs) : fieldA Tryd.prog 69 1 (.agg cs) = takeT Tryd.prog 3 (cs.drop 1) := fi_agg (by kernel_rfl) cs
@[go_sem] theorem T69f2p (k g off) : fieldAddrA Tryd.prog 69 2 (.ptr k g off) = some (.ptr k g (off + 2)) := fa_ptr (s := 0) (ft := 3) (by kernel_rfl) (by kernel_rfl) k g off
@[go_sem] theorem T69f2q (cs) : fieldAddrA Tryd.prog 69 2 (.fptr cs) = some (.fptr (cs.drop 2)) := fa_fptr (s := 0) (ft := 3) (by kernel_rfl) (by kernel_rfl) cs
@[go_sem] theorem T69f2v (cs) : fieldA Tryd.prog 69 2 (.agg cs) = takeT Tryd.prog 3 (cs.drop 2) := fi_agg (by kernel_rfl) cs
@[go_sem] theorem T69bd (xs) : aBuild Tryd.prog 69 xs = (fillA (fun i => ([(0, 1), (1, 1), (2, 1)] : List (Nat × Nat))[i]?) [AV.int .i64 0, AV.int .i64 0, AV.int .i64 0] xs).map .agg := by kernel_rfl
@[go_sem] theorem T69lf : eqLeaves Tryd.prog 69 = some [Leaf.int, Leaf.int, Leaf.int] := by kernel_rfl
@[go_sem] theorem T70s : tSize Tryd.prog 70 = some 1 := by kernel_rfl
@[go_sem] theorem T70a : tAgg Tryd.prog 70 = some false := by kernel_rfl
@[go_sem] theorem T70z : tZero Tryd.prog 70 = some [AV.nilp] := by kernel_rfl
@[go_sem] theorem T71s : tSize Tryd.prog 71 = some 1 := by kernel_rfl
@[go_sem] theorem T71a : tAgg Tryd.prog 71 = some false := by kernel_rfl
@[go_sem] theorem T71z : tZero Tryd.prog 71 = some [AV.nil] := by kernel_rfl
@[go_sem] theorem T71ln0 (o) : aLen Tryd.prog o 71 .nil = some (.int .i64 0) := ln_nil (e := 38) (by kernel_rfl) o
@[go_sem] theorem T71ln1 (o n cs) : aLen Tryd.prog o 71 (.sl n cs) = some (.int .i64 n) := ln_sl (e := 38) (by kernel_rfl) o n cs
@[go_sem] theorem T71ln2 (o k g off n) : aLen Tryd.prog o 71 (.ref k g off n) = some (.int .i64 n) := ln_ref (e := 38) (by kernel_rfl) o k g off n
@[go_sem] theorem T71ix1 (n cs i) : aIndexAddr Tryd.prog 71 (.sl n cs) i = if 0 ≤ i ∧ i < (n : Int) then some (.fptr (cs.drop (i.toNat * 1))) else none := ixs_sl (s := 1) (by kernel_rfl) n cs i
@[go_sem] theorem T71ix2 (k g off n i) : aIndexAddr Tryd.prog 71 (.ref k g off n) i = if 0 ≤ i ∧ i < (n : Int) then some (.ptr k g (off + i.toNat * 1)) else none := ixs_ref (s := 1) (by kernel_rfl) k g off n i
@[go_sem] theorem T71sl1 (n cs lo hi) : aSlice Tryd.prog 71 (.sl n cs) lo hi = if 0 ≤ lo.getD 0 ∧ lo.getD 0 ≤ hi.getD n ∧ hi.getD n ≤ n then some (.sl ((hi.getD n).toNat - (lo.getD 0).toNat) ((cs.take ((hi.getD n).toNat * 1)).drop ((lo.getD 0).toNat * 1))) else none := sl_sl (s := 1) (by kernel_rfl) n cs lo hi
@[go_sem] theorem T71sl2 (k g off n lo hi) : aSlice Tryd.prog 71 (.ref k g off n) lo hi = if 0 ≤ lo.getD 0 ∧ lo.getD 0 ≤ hi.getD n ∧ hi.getD n ≤ n then some (.ref k g (off + (lo.getD 0).toNat * 1) ((hi.getD n).toNat - (lo.getD 0).toNat)) else none := sl_ref (s := 0) (by kernel_rfl) k g off n lo hi
@[go_sem] theorem T71cp (k g off n x o nx) : aCopy Tryd.prog 71 (.ref k g off n) x ⟨o, nx⟩ = (srcOf o x).bind fun q => (rowIf (o k) g).bind (copyR k off n 1 q.1 q.2 o nx) := cp_ref (by kernel_rfl) k g off n x o nx
@[go_sem] theorem T71ms (tg l c o nx) : aMakeSlice Tryd.prog tg 71 l c ⟨o, nx⟩ = if 0 ≤ l ∧ l ≤ c ∧ c * 24 ≤ maxB ∧ c ≤ maxB then some (.ref tg tg 0 l.toNat, ⟨upd o tg (.row ⟨38, 1, tg, false, true, rep [AV.nil] l.toNat⟩), nx⟩) else none := ms_eq (e := 38) (s := 0) (b := 24) (z := [AV.nil]) (by kernel_rfl) (by kernel_rfl) (by kernel_rfl) (by kernel_rfl) rfl tg l c o nx
@[go_sem] theorem T71bs (tg n ps o nx) : aBuildSlice Tryd.prog tg 71 n ps ⟨o, nx⟩ = if n * 1 ≤ 16777216 then (fillA (fun i => some (i * 1, 1)) (rep [AV.nil] n) ps).map (fun cs => (.ref tg tg 0 n, ⟨upd o tg (.row ⟨38, 1, tg, false, true, cs⟩), nx⟩)) else none := bs_eq (e := 38) (s := 0) (z := [AV.nil]) (by kernel_rfl) (by kernel_rfl) (by kernel_rfl) rfl tg n ps o nx
@[go_sem] theorem T71ap (tg x y o nx) : aAppend Tryd.prog tg 71 71 x y ⟨o, nx⟩ = (srcOf o y).bind fun q => appW tg 38 1 24 x q.1 q.2 o nx := ap_eq (e := 38) (s := 0) (b := 23) (z := [AV.nil]) (by kernel_rfl) (by kernel_rfl) (by kernel_rfl) (by kernel_rfl) rfl (by kernel_rfl) tg x y o nx
@[go_sem] theorem T72s : tSize Tryd.prog 72 = some 1 := by kernel_rfl
@[go_sem] theorem T72a : tAgg Tryd.prog 72 = some false := by kernel_rfl
@[go_sem] theorem T72z : tZero Tryd.prog 72 = some [AV.nilmp] := by kernel_rfl
@[go_sem] theorem T72lk (m s ok o nx) : aLookup Tryd.prog 72 (.mp m) (.str s) ok ⟨o, nx⟩ = (mapIf (o m)).bind fun es => (findA (.str s) es).map (lkV ok (AV.int .i64 0)) := lk_eq (kt := 9) (et := 3) (z := (AV.int .i64 0)) (k := .str s) (by kernel_rfl) (by kernel_rfl) (by kernel_rfl) m ok o nx
@[go_sem] theorem T72mu (m s v o nx) : aMapUpdate Tryd.prog 72 (.mp m) (.str s) v ⟨o, nx⟩ = (mapIf (o m)).bind (updM m (.str s) v o nx) := mu_eq (kt := 9) (et := 3) (k := .str s) (by kernel_rfl) (by kernel_rfl) m v o nx
@[go_sem] theorem T72lm (o k) : aLen Tryd.prog o 72 (.mp k) = (mapIf (o k)).map fun es => .int .i64 es.length := lm_eq (kt := 9) (et := 3) (by kernel_rfl) o k
@[go_sem] theorem T73s : tSize Tryd.prog 73 = some 8 := by kernel_rfl
@[go_sem] theorem T73a : tAgg Tryd.prog 73 = some true := by kernel_rfl
@[go_sem] theorem T73z : tZero Tryd.prog 73 = some [AV.int .i64 0, AV.int .i64 0, AV.int .i64 0, AV.nil, AV.nil, AV.nil, AV.nilmp, AV.nil] := by kernel_rfl
@[go_sem] theorem T73f0p (k g off) : fieldAddrA Tryd.prog 73 0 (.ptr k g off) = some (.ptr k g (off + 0)) := fa_ptr (s := 4) (ft := 41) (by kernel_rfl) (by kernel_rfl) k g off
@[go_sem] theorem T73f0q (cs) : fieldAddrA Tryd.prog 73 0 (.fptr cs) = some (.fptr (cs.drop 0)) := fa_fptr (s := 4) (ft := 41) (by kernel_rfl) (by kernel_rfl) cs
@[go_sem] theorem T73f0v (cs) : fieldA Tryd.prog 73 0 (.agg cs) = takeT Tryd.prog 41 (cs.drop 0) := fi_agg (by kernel_rfl) cs
@[go_sem] theorem T73f1p (k g off) : fieldAddrA Tryd.prog 73 1 (.ptr k g off) = some (.ptr k g (off + 5)) := fa_ptr (s := 0) (ft := 71) (by kernel_rfl) (by kernel_rfl) k g off
@[go_sem] theorem T73f1q (cs) : fieldAddrA Tryd.prog 73 1 (.fptr cs) = some (.fptr (cs.drop 5)) := fa_fptr (s := 0) (ft := 71) (by kernel_rfl) (by kernel_rfl) cs
@[go_sem] theorem T73f1v (cs) : fieldA Tryd.prog 73 1 (.agg cs) = takeT Tryd.prog 71 (cs.drop 5) := fi_agg (by kernel_rfl) cs
@[go_sem] theorem T73f2p (k g off) : fieldAddrA Tryd.prog 73 2 (.ptr k g off) = some (.ptr k g (off + 6)) := fa_ptr (s := 0) (ft := 72) (by kernel_rfl) (by kernel_rfl) k g off
@[go_sem] theorem T73f2q (cs) : fieldAddrA Tryd.prog 73 2 (.fptr cs) = some (.fptr (cs.drop 6)) := fa_fptr (s := 0) (ft := 72) (by kernel_rfl) (by kernel_rfl) cs
@[go_sem] theorem T73f2v (cs) : fieldA Tryd.prog 73 2 (.agg cs) = takeT Tryd.prog 72 (cs.drop 6) := fi_agg (by kernel_rfl) cs
@[go_sem] theorem T73f3p (k g off) : fieldAddrA Tryd.prog 73 3 (.ptr k g off) = some (.ptr k g (off + 7)) := fa_ptr (s := 0) (ft := 34) (by kernel_rfl) (by kernel_rfl) k g off
@[go_sem] theorem T73f3q (cs) : fieldAddrA Tryd.prog 73 3 (.fptr cs) = some (.fptr (cs.drop 7)) := fa_fptr (s := 0) (ft := 34) (by kernel_rfl) (by kernel_rfl) cs
@[go_sem] theorem T73f3v (cs) : fieldA Tryd.prog 73 3 (.agg cs) = takeT Tryd.prog 34 (cs.drop 7) := fi_agg (by kernel_rfl) cs
@[go_sem] theorem T73bd (xs) : aBuild Tryd.prog 73 xs = (fillA (fun i => ([(0, 5), (5, 1), (6, 1), (7, 1)] : List (Nat × Nat))[i]?) [AV.int .i64 0, AV.int .i64 0, AV.int .i64 0, AV.nil, AV.nil, AV.nil, AV.nilmp, AV.nil] xs).map .agg := by kernel_rfl
@[go_sem] theorem T74s : tSize Tryd.prog 74 = some 8 := by kernel_rfl
@[go_sem] theorem T74a : tAgg Tryd.prog 74 = some true := by kernel_rfl
@[go_sem] theorem T74z : tZero Tryd.prog 74 = some [AV.int .i64 0, AV.int .i64 0, AV.int .i64 0, AV.nil, AV.nil, AV.nil, AV.nilmp, AV.nil] := by kernel_rfl
@[go_sem] theorem T74f0p (k g off) : fieldAddrA Tryd.prog 74 0 (.ptr k g off) = some (.ptr k g (off + 0)) := fa_ptr (s := 4) (ft := 41) (by kernel_rfl) (by kernel_rfl) k g off
@[go_sem] theorem T74f0q (cs) : fieldAddrA Tryd.prog 74 0 (.fptr cs) = some (.fptr (cs.drop 0)) := fa_fptr (s := 4) (ft := 41) (by kernel_rfl) (by kernel_rfl) cs
@[go_sem] theorem T74f0v (cs) : fieldA Tryd.prog 74 0 (.agg cs) = takeT Tryd.prog 41 (cs.drop 0) := fi_agg (by kernel_rfl) cs
@[go_sem] theorem T74f1p (k g off) : fieldAddrA Tryd.prog 74 1 (.ptr k g off) = some (.ptr k g (off + 5)) := fa_ptr (s := 0) (ft := 71) (by kernel_rfl) (by kernel_rfl) k g off
@[go_sem] theorem T74f1q (cs) : fieldAddrA Tryd.prog 74 1 (.fptr cs) = some (.fptr (cs.drop 5)) := fa_fptr (s := 0) (ft := 71) (by kernel_rfl) (by kernel_rfl) cs
@[go_sem] theorem T74f1v (cs) : fieldA Tryd.prog 74 1 (.agg cs) = takeT Tryd.prog 71 (cs.drop 5) := fi_agg (by kernel_rfl) cs
@[go_sem] theorem T74f2p (k g off) : fieldAddrA Tryd.prog 74 2 (.ptr k g off) = some (.ptr k g (off + 6)) := fa_ptr (s := 0) (ft := 72) (by kernel_rfl) (by kernel_rfl) k g off
@[go_sem] theorem T74f2q (cs) : fieldAddrA Tryd.prog 74 2 (.fptr cs) = some (.fptr (cs.drop 6)) := fa_fptr (s := 0) (ft := 72) (by kernel_rfl) (by kernel_rfl) cs
@[go_sem] theorem T74f2v (cs) : fieldA Tryd.prog 74 2 (.agg cs) = takeT Tryd.prog 72 (cs.drop 6) := fi_agg (by kernel_rfl) cs
@[go_sem] theorem T74f3p (k g off) : fieldAddrA Tryd.prog 74 3 (.ptr k g off) = some (.ptr k g (off + 7)) := fa_ptr (s := 0) (ft := 34) (by kernel_rfl) (by kernel_rfl) k g off
@[go_sem] theorem T74f3q (cs) : fieldAddrA Tryd.prog 74 3 (.fptr cs) = some (.fptr (cs.drop 7)) := fa_fptr (s := 0) (ft := 34) (by kernel_rfl) (by kernel_rfl) cs
@[go_sem] theorem T74f3v (cs) : fieldA Tryd.prog 74 3 (.agg cs) = takeT Tryd.prog 34 (cs.drop 7) := fi_agg (by kernel_rfl) cs
@[go_sem] theorem T74bd (xs) : aBuild Tryd.prog 74 xs = (fillA (fun i => ([(0, 5), (5, 1), (6, 1), (7, 1)] : List (Nat × Nat))[i]?) [AV.int .i64 0, AV.int .i64 0, AV.int .i64 0, AV.nil, AV.nil, AV.nil, AV.nilmp, AV.nil] xs).map .agg := by kernel_rfl
@[go_sem] theorem T80s : tSize Tryd.prog 80 = some 1 := by kernel_rfl
@[go_sem] theorem T80a : tAgg Tryd.prog 80 = some false := by kernel_rfl
@[go_sem] theorem T80z : tZero Tryd.prog 80 = some [AV.nil] := by kernel_rfl
@[go_sem] theorem T80ln0 (o) : aLen Tryd.prog o 80 .nil = some (.int .i64 0) := ln_nil (e := 23) (by kernel_rfl) o
@[go_sem] theorem T80ln1 (o n cs) : aLen Tryd.prog o 80 (.sl n cs) = some (.int .i64 n) := ln_sl (e := 23) (by kernel_rfl) o n cs
@[go_sem] theorem T80ln2 (o k g off n) : aLen Tryd.prog o 80 (.ref k g off n) = some (.int .i64 n) := ln_ref (e := 23) (by kernel_rfl) o k g off n
@[go_sem] theorem T80ix1 (n cs i) : aIndexAddr Tryd.prog 80 (.sl n cs) i = if 0 ≤ i ∧ i < (n : Int) then some (.fptr (cs.drop (i.toNat * 1))) else none := ixs_sl (s := 1) (by kernel_rfl) n cs i
@[go_sem] theorem T80ix2 (k g off n i) : aIndexAddr Tryd.prog 80 (.ref k g off n) i = if 0 ≤ i ∧ i < (n : Int) then some (.ptr k g (off + i.toNat * 1)) else none := ixs_ref (s := 1) (by kernel_rfl) k g off n i
@[go_sem] theorem T80sl1 (n cs lo hi) : aSlice Tryd.prog 80 (.sl n cs) lo hi = if 0 ≤ lo.getD 0 ∧ lo.getD 0 ≤ hi.getD n ∧ hi.getD n ≤ n then some (.sl ((hi.getD n).toNat - (lo.getD 0).toNat) ((cs.take ((hi.getD n).toNat * 1)).drop ((lo.getD 0).toNat * 1))) else none := sl_sl (s := 1) (by kernel_rfl) n cs lo hi
@[go_sem] theorem T80sl2 (k g off n lo hi) : aSlice Tryd.prog 80 (.ref k g off n) lo hi = if 0 ≤ lo.getD 0 ∧ lo.getD 0 ≤ hi.getD n ∧ hi.getD n ≤ n then some (.ref k g (off + (lo.getD 0).toNat * 1) ((hi.getD n).toNat - (lo.getD 0).toNat)) else none := sl_ref (s := 0) (by kernel_rfl) k g off n lo hi
@[go_sem] theorem T80cp (k g off n x o nx) : aCopy Tryd.prog 80 (.ref k g off n) x ⟨o, nx⟩ = (srcOf o x).bind fun q => (rowIf (o k) g).bind (copyR k off n 1 q.1 q.2 o nx) := cp_ref (by kernel_rfl) k g off n x o nx
@[go_sem] theorem T80ms (tg l c o nx) : aMakeSlice Tryd.prog tg 80 l c ⟨o, nx⟩ = if 0 ≤ l ∧ l ≤ c ∧ c * 24 ≤ maxB ∧ c ≤ maxB then some (.ref tg tg 0 l.toNat, ⟨upd o tg (.row ⟨23, 1, tg, false, true, rep [AV.nil] l.toNat⟩), nx⟩) else none := ms_eq (e := 23) (s := 0) (b := 24) (z := [AV.nil]) (by kernel_rfl) (by kernel_rfl) (by kernel_rfl) (by kernel_rfl) rfl tg l c o nx
@[go_sem] theorem T80bs (tg n ps o nx) : aBuildSlice Tryd.prog tg 80 n ps ⟨o, nx⟩ = if n * 1 ≤ 16777216 then (fillA (fun i => some (i * 1, 1)) (rep [AV.nil] n) ps).map (fun cs => (.ref tg tg 0 n, ⟨upd o tg (.row ⟨23, 1, tg, false, true, cs⟩), nx⟩)) else none := bs_eq (e := 23) (s := 0) (z := [AV.nil]) (by kernel_rfl) (by kernel_rfl) (by kernel_rfl) rfl tg n ps o nx
@[go_sem] theorem T80ap (tg x y o nx) : aAppend Tryd.prog tg 80 80 x y ⟨o, nx⟩ = (srcOf o y).bind fun q => appW tg 23 1 24 x q.1 q.2 o nx := ap_eq (e := 23) (s := 0) (b := 23) (z := [AV.nil]) (by kernel_rfl) (by kernel_rfl) (by kernel_rfl) (by kernel_rfl) rfl (by kernel_rfl) tg x y o nx
@[go_sem] theorem T84s : tSize Tryd.prog 84 = some 3 := by kernel_rfl
@[go_sem] theorem T84a : tAgg Tryd.prog 84 = some true := by kernel_rfl
@[go_sem] theorem T84z : tZero Tryd.prog 84 = some [AV.int .i64 0, AV.int .i64 0, AV.nil] := by kernel_rfl
@[go_sem] theorem T84f0p (k g off) : fieldAddrA Tryd.prog 84 0 (.ptr k g off) = some (.ptr k g (off + 0)) := fa_ptr (s := 0) (ft := 3) (by kernel_rfl) (by kernel_rfl) k g off
@[go_sem] theorem T84f0q (cs) : fieldAddrA Tryd.prog 84 0 (.fptr cs) = some (.fptr (cs.drop 0)) := fa_fptr (s := 0) (ft := 3) (by kernel_rfl) (by kernel_rfl) cs
@[go_sem] theorem T84f0v (cs) : fieldA Tryd.prog 84 0 (.agg cs) = takeT Tryd.prog 3 (cs.drop 0) := fi_agg (by kernel_rfl) cs
@[go_sem] theorem T84f1p (k g off) : fieldAddrA Tryd.prog 84 1 (.ptr k g off) = some (.ptr k g (off + 1)) := fa_ptr (s := 0) (ft := 3) (by kernel_rfl) (by kernel_rfl) k g off
@[go_sem] theorem T84f1q (cs) : fieldAddrA Tryd.prog 84 1 (.fptr cs) = some (.fptr (cs.drop 1)) := fa_fptr (s := 0) (ft := 3) (by kernel_rfl) (by kernel_rfl) cs
@[go_sem] theorem T84f1v (cs) : fieldA Tryd.prog 84 1 (.agg cs) = takeT Tryd.prog 3 (cs.drop 1) := fi_agg (by kernel_rfl) cs
@[go_sem] theorem T84f2p (k g off) : fieldAddrA Tryd.prog 84 2 (.ptr k g off) = some (.ptr k g (off + 2)) := fa_ptr (s := 0) (ft := 50) (by kernel_rfl) (by kernel_rfl) k g off
@[go_sem] theorem T84f2q (cs) : fieldAddrA Tryd.prog 84 2 (.fptr cs) = some (.fptr (cs.drop 2)) := fa_fptr (s := 0) (ft := 50) (by kernel_rfl) (by kernel_rfl) cs
@[go_sem] theorem T84f2v (cs) : fieldA Tryd.prog 84 2 (.agg cs) = takeT Tryd.prog 50 (cs.drop 2) := fi_agg (by kernel_rfl) cs
@[go_sem] theorem T84bd (xs) : aBuild Tryd.prog 84 xs = (fillA (fun i => ([(0, 1), (1, 1), (2, 1)] : List (Nat × Nat))[i]?) [AV.int .i64 0, AV.int .i64 0, AV.nil] xs).map .agg := by kernel_rfl
@[go_sem] theorem T85s : tSize Tryd.prog 85 = some 3 := by kernel_rfl
@[go_sem] theorem T85a : tAgg Tryd.prog 85 = some true := by kernel_rfl
@[go_sem] theorem T85z : tZero Tryd.prog 85 = some [AV.int .i64 0, AV.int .i64 0, AV.nil] := by kernel_rfl
@[go_sem] theorem T85f0p (k g off) : fieldAddrA Tryd.prog 85 0 (.ptr k g off) = some (.ptr k g (off + 0)) := fa_ptr (s := 0) (ft := 3) (by kernel_rfl) (by kernel_rfl) k g off
@[go_sem] theorem T85f0q (cs) : fieldAddrA Tryd.prog 85 0 (.fptr cs) = some (.fptr (cs.drop 0)) := fa_fptr (s := 0) (ft := 3) (by kernel_rfl) (by kernel_rfl) cs
@[go_sem] theorem T85f0v (cs) : fieldA Tryd.prog 85 0 (.agg cs) = takeT Tryd.prog 3 (cs.drop 0) := fi_agg (by kernel_rfl) cs
@[go_sem] theorem T85f1p (k g off) : fieldAddrA Tryd.prog 85 1 (.ptr k g off) = some (.ptr k g (off + 1)) := fa_ptr (s := 0) (ft := 3) (by kernel_rfl) (by kernel_rfl) k g off
@[go_sem] theorem T85f1q (cs) : fieldAddrA Tryd.prog 85 1 (.fptr cs) = some (.fptr (cs.drop 1)) := fa_fptr (s := 0) (ft := 3) (by kernel_rfl) (by kernel_rfl) cs
@[go_sem] theorem T85f1v (cs) : fieldA Tryd.prog 85 1 (.agg cs) = takeT Tryd.prog 3 (cs.drop 1) := fi_agg (by kernel_rfl) cs
@[go_sem] theorem T85f2p (k g off) : fieldAddrA Tryd.prog 85 2 (.ptr k g off) = some (.ptr k g (off + 2)) := fa_ptr (s := 0) (ft := 50) (by kernel_rfl) (by kernel_rfl) k g off
@[go_sem] theorem T85f2q (cs) : fieldAddrA Tryd.prog 85 2 (.fptr cs) = some (.fptr (cs.drop 2)) := fa_fptr (s := 0) (ft := 50) (by kernel_rfl) (by kernel_rfl) cs
@[go_sem] theorem T85f2v (cs) : fieldA Tryd.prog 85 2 (.agg cs) = takeT Tryd.prog 50 (cs.drop 2) := fi_agg (by kernel_rfl) cs
@[go_sem] theorem T85bd (xs) : aBuild Tryd.prog 85 xs = (fillA (fun i => ([(0, 1), (1, 1), (2, 1)] : List (Nat × Nat))[i]?) [AV.int .i64 0, AV.int .i64 0, AV.nil] xs).map .agg := by kernel_rfl
@[go_sem] theorem T87s : tSize Tryd.prog 87 = some 1 := by kernel_rfl
@[go_sem] theorem T87a : tAgg Tryd.prog 87 = some false := by kernel_rfl
@[go_sem] theorem T87z : tZero Tryd.prog 87 = some [AV.nilp] := by kernel_rfl
@[go_sem] theorem T88s : tSize Tryd.prog 88 = some 6 := by kernel_rfl
@[go_sem] theorem T88a : tAgg Tryd.prog 88 = some true := by kernel_rfl
@[go_sem] theorem T88z : tZero Tryd.prog 88 = some [AV.int .i64 0, AV.int .i64 0, AV.int .i64 0, AV.nil, AV.nil, AV.bool false] := by kernel_rfl
@[go_sem] theorem T88f0p (k g off) : fieldAddrA Tryd.prog 88 0 (.ptr k g off) = some (.ptr k g (off + 0)) := fa_ptr (s := 4) (ft := 41) (by kernel_rfl) (by kernel_rfl) k g off
@[go_sem] theorem T88f0q (cs) : fieldAddrA Tryd.prog 88 0 (.fptr cs) = some (.fptr (cs.drop 0)) := fa_fptr (s := 4) (ft := 41) (by kernel_rfl) (by kernel_rfl) cs
@[go_sem] theorem T88f0v (cs) : fieldA Tryd.prog 88 0 (.agg cs) = takeT Tryd.prog 41 (cs.drop 0) := fi_agg (by kernel_rfl) cs
@[go_sem] theorem T88f1p (k g off) : fieldAddrA Tryd.prog 88 1 (.ptr k g off) = some (.ptr k g (off + 5)) := fa_ptr (s := 0) (ft := 4) (by kernel_rfl) (by kernel_rfl) k g off
@[go_sem] theorem T88f1q (cs) : fieldAddrA Tryd.prog 88 1 (.fptr cs) = some (.fptr (cs.drop 5)) := fa_fptr (s := 0) (ft := 4) (by kernel_rfl) (by kernel_rfl) cs
@[go_sem] theorem T88f1v (cs) : fieldA Tryd.prog 88 1 (.agg cs) = takeT Tryd.prog 4 (cs.drop 5) := fi_agg (by kernel_rfl) cs
@[go_sem] theorem T88bd (xs) : aBuild Tryd.prog 88 xs = (fillA (fun i => ([(0, 5), (5, 1)] : List (Nat × Nat))[i]?) [AV.int .i64 0, AV.int .i64 0, AV.int .i64 0, AV.nil, AV.nil, AV.bool false] xs).map .agg := by kernel_rfl
@[go_sem] theorem T89s : tSize Tryd.prog 89 = some 6 := by kernel_rfl
@[go_sem] theorem T89a : tAgg Tryd.prog 89 = some true := by kernel_rfl
@[go_sem] theorem T89z : tZero Tryd.prog 89 = some [AV.int .i64 0, AV.int .i64 0, AV.int .i64 0, AV.nil, AV.nil, AV.bool false] := by kernel_rfl
@[go_sem] theorem T89f0p (k g off) : fieldAddrA Tryd.prog 89 0 (.ptr k g off) = some (.ptr k g (off + 0)) := fa_ptr (s := 4) (ft := 41) (by kernel_rfl) (by kernel_rfl) k g off
@[go_sem] theorem T89f0q (cs) : fieldAddrA Tryd.prog 89 0 (.fptr cs) = some (.fptr (cs.drop 0)) := fa_fptr (s := 4) (ft := 41) (by kernel_rfl) (by kernel_rfl) cs
@[go_sem] theorem T89f0v (cs) : fieldA Tryd.prog 89 0 (.agg cs) = takeT Tryd.prog 41 (cs.drop 0) := fi_agg (by kernel_rfl) cs
@[go_sem] theorem T89f1p (k g off) : fieldAddrA Tryd.prog 89 1 (.ptr k g off) = some (.ptr k g (off + 5)) := fa_ptr (s := 0) (ft := 4) (by kernel_rfl) (by kernel_rfl) k g off
@[go_sem] theorem T89f1q (cs) : fieldAddrA Tryd.prog 89 1 (.fptr cs) = some (.fptr (cs.drop 5)) := fa_fptr (s := 0) (ft := 4) (by kernel_rfl) (by kernel_rfl) cs
@[go_sem] theorem T89f1v (cs) : fieldA Tryd.prog 89 1 (.agg cs) = takeT Tryd.prog 4 (cs.drop 5) := fi_agg (by kernel_rfl) cs
@[go_sem] theorem T89bd (xs) : aBuild Tryd.prog 89 xs = (fillA (fun i => ([(0, 5), (5, 1)] : List (Nat × Nat))[i]?) [AV.int .i64 0, AV.int .i64 0, AV.int .i64 0, AV.nil, AV.nil, AV.bool false] xs).map .agg := by kernel_rfl
@[go_sem] theorem T92s : tSize Tryd.prog 92 = some 1 := by kernel_rfl
@[go_sem] theorem T92a : tAgg Tryd.prog 92 = some false := by kernel_rfl
@[go_sem] theorem T92z : tZero Tryd.prog 92 = some [AV.nil] := by kernel_rfl
@[go_sem] theorem T92ln0 (o) : aLen Tryd.prog o 92 .nil = some (.int .i64 0) := ln_nil (e := 4) (by kernel_rfl) o
@[go_sem] theorem T92ln1 (o n cs) : aLen Tryd.prog o 92 (.sl n cs) = some (.int .i64 n) := ln_sl (e := 4) (by kernel_rfl) o n cs
@[go_sem] theorem T92ln2 (o k g off n) : aLen Tryd.prog o 92 (.ref k g off n) = some (.int .i64 n) := ln_ref (e := 4) (by kernel_rfl) o k g off n
@[go_sem] theorem T92ix1 (n cs i) : aIndexAddr Tryd.prog 92 (.sl n cs) i = if 0 ≤ i ∧ i < (n : Int) then some (.fptr (cs.drop (i.toNat * 1))) else none := ixs_sl (s := 1) (by kernel_rfl) n cs i
@[go_sem] theorem T92ix2 (k g off n i) : aIndexAddr Tryd.prog 92 (.ref k g off n) i = if 0 ≤ i ∧ i < (n : Int) then some (.ptr k g (off + i.toNat * 1)) else none := ixs_ref (s := 1) (by kernel_rfl) k g off n i
@[go_sem] theorem T92sl1 (n cs lo hi) : aSlice Tryd.prog 92 (.sl n cs) lo hi = if 0 ≤ lo.getD 0 ∧ lo.getD 0 ≤ hi.getD n ∧ hi.getD n ≤ n then some (.sl ((hi.getD n).toNat - (lo.getD 0).toNat) ((cs.take ((hi.getD n).toNat * 1)).drop ((lo.getD 0).toNat * 1))) else none := sl_sl (s := 1) (by kernel_rfl) n cs lo hi
@[go_sem] theorem T92sl2 (k g off n lo hi) : aSlice Tryd.prog 92 (.ref k g off n) lo hi = if 0 ≤ lo.getD 0 ∧ lo.getD 0 ≤ hi.getD n ∧ hi.getD n ≤ n then some (.ref k g (off + (lo.getD 0).toNat * 1) ((hi.getD n).toNat - (lo.getD 0).toNat)) else none := sl_ref (s := 0) (by kernel_rfl) k g off n lo hi
@[go_sem] theorem T92cp (k g off n x o nx) : aCopy Tryd.prog 92 (.ref k g off n) x ⟨o, nx⟩ = (srcOf o x).bind fun q => (rowIf (o k) g).bind (copyR k off n 1 q.1 q.2 o nx) := cp_ref (by kernel_rfl) k g off n x o nx
@[go_sem] theorem T92ms (tg l c o nx) : aMakeSlice Tryd.prog tg 92 l c ⟨o, nx⟩ = if 0 ≤ l ∧ l ≤ c ∧ c * 1 ≤ maxB ∧ c ≤ maxB then some (.ref tg tg 0 l.toNat, ⟨upd o tg (.row ⟨4, 1, tg, false, true, rep [AV.bool false] l.toNat⟩), nx⟩) else none := ms_eq (e := 4) (s := 0) (b := 1) (z := [AV.bool false]) (by kernel_rfl) (by kernel_rfl) (by kernel_rfl) (by kernel_rfl) rfl tg l c o nx
@[go_sem] theorem T92bs (tg n ps o nx) : aBuildSlice Tryd.prog tg 92 n ps ⟨o, nx⟩ = if n * 1 ≤ 16777216 then (fillA (fun i => some (i * 1, 1)) (rep [AV.bool false] n) ps).map (fun cs => (.ref tg tg 0 n, ⟨upd o tg (.row ⟨4, 1, tg, false, true, cs⟩), nx⟩)) else none := bs_eq (e := 4) (s := 0) (z := [AV.bool false]) (by kernel_rfl) (by kernel_rfl) (by kernel_rfl) rfl tg n ps o nx
@[go_sem] theorem T92ap (tg x y o nx) : aAppend Tryd.prog tg 92 92 x y ⟨o, nx⟩ = (srcOf o y).bind fun q => appW tg 4 1 1 x q.1 q.2 o nx := ap_eq (e := 4) (s := 0) (b := 0) (z := [AV.bool false]) (by kernel_rfl) (by kernel_rfl) (by kernel_rfl) (by kernel_rfl) rfl (by kernel_rfl) tg x y o nx
@[go_sem] theorem T97s : tSize Tryd.prog 97 = some 2 := by kernel_rfl
@[go_sem] theorem T97a : tAgg Tryd.prog 97 = some true := by kernel_rfl
@[go_sem] theorem T97z : tZero Tryd.prog 97 = some [AV.int .i64 0, AV.nil] := by kernel_rfl
@[go_sem] theorem T97f0p (k g off) : fieldAddrA Tryd.prog 97 0 (.ptr k g off) = some (.ptr k g (off + 0)) := fa_ptr (s := 0) (ft := 3) (by kernel_rfl) (by kernel_rfl) k g off
@[go_sem] theorem T97f0q (cs) : fieldAddrA Tryd.prog 97 0 (.fptr cs) = some (.fptr (cs.drop 0)) := fa_fptr (s := 0) (ft := 3) (by kernel_rfl) (by kernel_rfl) cs
@[go_sem] theorem T97f0v (cs) : fieldA Tryd.prog 97 0 (.agg cs) = takeT Tryd.prog 3 (cs.drop 0) := fi_agg (by kernel_rfl) cs
@[go_sem] theorem T97f1p (k g off) : fieldAddrA Tryd.prog 97 1 (.ptr k g off) = some (.ptr k g (off + 1)) := fa_ptr (s := 0) (ft := 34) (by kernel_rfl) (by kernel_rfl) k g off
@[go_sem] theorem T97f1q (cs) : fieldAddrA Tryd.prog 97 1 (.fptr cs) = some (.fptr (cs.drop 1)) := fa_fptr (s := 0) (ft := 34) (by kernel_rfl) (by kernel_rfl) cs
@[go_sem] theorem T97f1v (cs) : fieldA Tryd.prog 97 1 (.agg cs) = takeT Tryd.prog 34 (cs.drop 1) := fi_agg (by kernel_rfl) cs
@[go_sem] theorem T97bd (xs) : aBuild Tryd.prog 97 xs = (fillA (fun i => ([(0, 1), (1, 1)] : List (Nat × Nat))[i]?) [AV.int .i64 0, AV.nil] xs).map .agg := by kernel_rfl
@[go_sem] theorem T98s : tSize Tryd.prog 98 = some 2 := by kernel_rfl
@[go_sem] theorem T98a : tAgg Tryd.prog 98 = some true := by kernel_rfl
@[go_sem] theorem T98z : tZero Tryd.prog 98 = some [AV.int .i64 0, AV.nil] := by kernel_rfl
@[go_sem] theorem T98f0p (k g off) : fieldAddrA Tryd.prog 98 0 (.ptr k g off) = some (.ptr k g (off + 0)) := fa_ptr (s := 0) (ft := 3) (by kernel_rfl) (by kernel_rfl) k g off
@[go_sem] theorem T98f0q (cs) : fieldAddrA Tryd.prog 98 0 (.fptr cs) = some (.fptr (cs.drop 0)) := fa_fptr (s := 0) (ft := 3) (by kernel_rfl) (by kernel_rfl) cs
@[go_sem] theorem T98f0v (cs) : fieldA Tryd.prog 98 0 (.agg cs) = takeT Tryd.prog 3 (cs.drop 0) := fi_agg (by kernel_rfl) cs
@[go_sem] theorem T98f1p (k g off) : fieldAddrA Tryd.prog 98 1 (.ptr k g off) = some (.ptr k g (off + 1)) := fa_ptr (s := 0) (ft := 34) (by kernel_rfl) (by kernel_rfl) k g off
@[go_sem] theorem T98f1q (cs) : fieldAddrA Tryd.prog 98 1 (.fptr cs) = some (.fptr (cs.drop 1)) := fa_fptr (s := 0) (ft := 34) (by kernel_rfl) (by kernel_rfl) cs
@[go_sem] theorem T98f1v (cs) : fieldA Tryd.prog 98 1 (.agg cs) = takeT Tryd.prog 34 (cs.drop 1) := fi_agg (by kernel_rfl) cs
@[go_sem] theorem T98bd (xs) : aBuild Tryd.prog 98 xs = (fillA (fun i => ([(0, 1), (1, 1)] : List (Nat × Nat))[i]?) [AV.int .i64 0, AV.nil] xs).map .agg := by kernel_rfl
@[go_sem] theorem T112s : tSize Tryd.prog 112 = some 24 := by kernel_rfl
@[go_sem] theorem T112a : tAgg Tryd.prog 112 = some true := by kernel_rfl
@[go_sem] theorem T112z : tZero Tryd.prog 112 = some [AV.int .u8 0, AV.int .u8 0, AV.int .u8 0, AV.int .u8 0, AV.int .u8 0, AV.int .u8 0, AV.int .u8 0, AV.int .u8 0, AV.int .u8 0, AV.int .u8 0, AV.int .u8 0, AV.int .u8 0, AV.int .u8 0, AV.int .u8 0, AV.int .u8 0, AV.int .u8 0, AV.int .u8 0, AV.int .u8 0, AV.int .u8 0, AV.int .u8 0, AV.int .u8 0, AV.int .u8 0, AV.int .u8 0, AV.int .u8 0] := by kernel_rfl
@[go_sem] theorem T112ln (o x) : aLen Tryd.prog o 112 x = some (.int .i64 24) := ln_arr (e := 5) (by kernel_rfl) o x
@[go_sem] theorem T112ix1 (cs i) : aIndexAddr Tryd.prog 112 (.fptr cs) i = if 0 ≤ i ∧ i < 24 then some (.fptr (cs.drop (i.toNat * 1))) else none := ixa_fptr (n := 24) (e := 5) (s := 1) (by kernel_rfl) (by kernel_rfl) cs i
@[go_sem] theorem T112ix2 (k g off i) : aIndexAddr Tryd.prog 112 (.ptr k g off) i = if 0 ≤ i ∧ i < 24 then some (.ptr k g (off + i.toNat * 1)) else none := ixa_ptr (n := 24) (e := 5) (s := 1) (by kernel_rfl) (by kernel_rfl) k g off i
@[go_sem] theorem T112iv (cs i) : aIndex Tryd.prog 112 (.agg cs) i = if 0 ≤ i ∧ i < 24 then takeT Tryd.prog 5 (cs.drop (i.toNat * 1)) else none := ixv_agg (n := 24) (e := 5) (s := 1) (by kernel_rfl) (by kernel_rfl) cs i
@[go_sem] theorem T112bd (xs) : aBuild Tryd.prog 112 xs = (fillA (fun i => some (i * 1, 1)) [AV.int .u8 0, AV.int .u8 0, AV.int .u8 0, AV.int .u8 0, AV.int .u8 0, AV.int .u8 0, AV.int .u8 0, AV.int .u8 0, AV.int .u8 0, AV.int .u8 0, AV.int .u8 0, AV.int .u8 0, AV.int .u8 0, AV.int .u8 0, AV.int .u8 0, AV.int .u8 0, AV.int .u8 0, AV.int .u8 0, AV.int .u8 0, AV.int .u8 0, AV.int .u8 0, AV.int .u8 0, AV.int .u8 0, AV.int .u8 0] xs).map .agg := bd_array (n := 24) (e := 5) (by kernel_rfl) (by kernel_rfl) (by kernel_rfl) xs
@[go_sem] theorem T112lf : eqLeaves Tryd.prog 112 = some [Leaf.int, Leaf.int, Leaf.int, Leaf.int, Leaf.int, Leaf.int, Leaf.int, Leaf.int, Leaf.int, Leaf.int, Leaf.int, Leaf.int, Leaf.int, Leaf.int, Leaf.int, Leaf.int, Leaf.int, Leaf.int, Leaf.int, Leaf.int, Leaf.int, Leaf.int, Leaf.int, Leaf.int] := by kernel_rfl
@[go_sem] theorem T113s : tSize Tryd.prog 113 = some 1 := by kernel_rfl
@[go_sem] theorem T113a : tAgg Tryd.prog 113 = some false := by kernel_rfl
@[go_sem] theorem T113z : tZero Tryd.prog 113 = some [AV.int .u64 0] := by kernel_rfl
@[go_sem] theorem T113u : Tryd.prog.underlying 113 = some (.int .u64) := by kernel_rfl
@[go_sem] theorem T116s : tSize Tryd.prog 116 = some 1 := by kernel_rfl
@[go_sem] theorem T116a : tAgg Tryd.prog 116 = some false := by kernel_rfl
@[go_sem] theorem T116z : tZero Tryd.prog 116 = some [AV.nil] := by kernel_rfl
@[go_sem] theorem T116ln0 (o) : aLen Tryd.prog o 116 .nil = some (.int .i64 0) := ln_nil (e := 5) (by kernel_rfl) o
@[go_sem] theorem T116ln1 (o n cs) : aLen Tryd.prog o 116 (.sl n cs) = some (.int .i64 n) := ln_sl (e := 5) (by kernel_rfl) o n cs
@[go_sem] theorem T116ln2 (o k g off n) : aLen Tryd.prog o 116 (.ref k g off n) = some (.int .i64 n) := ln_ref (e := 5) (by kernel_rfl) o k g off n
@[go_sem] theorem T116ix1 (n cs i) : aIndexAddr Tryd.prog 116 (.sl n cs) i = if 0 ≤ i ∧ i < (n : Int) then some (.fptr (cs.drop (i.toNat * 1))) else none := ixs_sl (s := 1) (by kernel_rfl) n cs i
@[go_sem] theorem T116ix2 (k g off n i) : aIndexAddr Tryd.prog 116 (.ref k g off n) i = if 0 ≤ i ∧ i < (n : Int) then some (.ptr k g (off + i.toNat * 1)) else none := ixs_ref (s := 1) (by kernel_rfl) k g off n i
@[go_sem] theorem T116sl1 (n cs lo hi) : aSlice Tryd.prog 116 (.sl n cs) lo hi = if 0 ≤ lo.getD 0 ∧ lo.getD 0 ≤ hi.getD n ∧ hi.getD n ≤ n then some (.sl ((hi.getD n).toNat - (lo.getD 0).toNat) ((cs.take ((hi.getD n).toNat * 1)).drop ((lo.getD 0).toNat * 1))) else none := sl_sl (s := 1) (by kernel_rfl) n cs lo hi
@[go_sem] theorem T116sl2 (k g off n lo hi) : aSlice Tryd.prog 116 (.ref k g off n) lo hi = if 0 ≤ lo.getD 0 ∧ lo.getD 0 ≤ hi.getD n ∧ hi.getD n ≤ n then some (.ref k g (off + (lo.getD 0).toNat * 1) ((hi.getD n).toNat - (lo.getD 0).toNat)) else none := sl_ref (s := 0) (by kernel_rfl) k g off n lo hi
@[go_sem] theorem T116cp (k g off n x o nx) : aCopy Tryd.prog 116 (.ref k g off n) x ⟨o, nx⟩ = (srcOf o x).bind fun q => (rowIf (o k) g).bind (copyR k off n 1 q.1 q.2 o nx) := cp_ref (by kernel_rfl) k g off n x o nx
@[go_sem] theorem T116ms (tg l c o nx) : aMakeSlice Tryd.prog tg 116 l c ⟨o, nx⟩ = if 0 ≤ l ∧ l ≤ c ∧ c * 1 ≤ maxB ∧ c ≤ maxB then some (.ref tg tg 0 l.toNat, ⟨upd o tg (.row ⟨5, 1, tg, false, true, rep [AV.int .u8 0] l.toNat⟩), nx⟩) else none := ms_eq (e := 5) (s := 0) (b := 1) (z := [AV.int .u8 0]) (by kernel_rfl) (by kernel_rfl) (by kernel_rfl) (by kernel_rfl) rfl tg l c o nx
@[go_sem] theorem T116bs (tg n ps o nx) : aBuildSlice Tryd.prog tg 116 n ps ⟨o, nx⟩ = if n * 1 ≤ 16777216 then (fillA (fun i => some (i * 1, 1)) (rep [AV.int .u8 0] n) ps).map (fun cs => (.ref tg tg 0 n, ⟨upd o tg (.row ⟨5, 1, tg, false, true, cs⟩), nx⟩)) else none := bs_eq (e := 5) (s := 0) (z := [AV.int .u8 0]) (by kernel_rfl) (by kernel_rfl) (by kernel_rfl) rfl tg n ps o nx
@[go_sem] theorem T116ap (tg x y o nx) : aAppend Tryd.prog tg 116 116 x y ⟨o, nx⟩ = (srcOf o y).bind fun q => appW tg 5 1 1 x q.1 q.2 o nx := ap_eq (e := 5) (s := 0) (b := 0) (z := [AV.int .u8 0]) (by kernel_rfl) (by kernel_rfl) (by kernel_rfl) (by kernel_rfl) rfl (by kernel_rfl) tg x y o nx
@[go_sem] theorem T121s : tSize Tryd.prog 121 = some 20 := by kernel_rfl
@[go_sem] theorem T121a : tAgg Tryd.prog 121 = some true := by kernel_rfl
@[go_sem] theorem T121z : tZero Tryd.prog 121 = some [AV.int .u64 0, AV.int .u64 0, AV.int .u64 0, AV.int .u64 0, AV.int .u64 0, AV.int .u64 0, AV.int .u64 0, AV.int .u64 0, AV.int .u64 0, AV.int .u64 0, AV.int .u64 0, AV.int .u64 0, AV.int .u64 0, AV.int .u64 0, AV.int .u64 0, AV.int .u64 0, AV.int .u64 0, AV.int .u64 0, AV.int .u64 0, AV.int .u64 0] := by kernel_rfl
@[go_sem] theorem T121ln (o x) : aLen Tryd.prog o 121 x = some (.int .i64 20) := ln_arr (e := 113) (by kernel_rfl) o x
@[go_sem] theorem T121ix1 (cs i) : aIndexAddr Tryd.prog 121 (.fptr cs) i = if 0 ≤ i ∧ i < 20 then some (.fptr (cs.drop (i.toNat * 1))) else none := ixa_fptr (n := 20) (e := 113) (s := 1) (by kernel_rfl) (by kernel_rfl) cs i
@[go_sem] theorem T121ix2 (k g off i) : aIndexAddr Tryd.prog 121 (.ptr k g off) i = if 0 ≤ i ∧ i < 20 then some (.ptr k g (off + i.toNat * 1)) else none := ixa_ptr (n := 20) (e := 113) (s := 1) (by kernel_rfl) (by kernel_rfl) k g off i
@[go_sem] theorem T121iv (cs i) : aIndex Tryd.prog 121 (.agg cs) i = if 0 ≤ i ∧ i < 20 then takeT Tryd.prog 113 (cs.drop (i.toNat * 1)) else none := ixv_agg (n := 20) (e := 113) (s := 1) (by kernel_rfl) (by kernel_rfl) cs i
@[go_sem] theorem T121bd (xs) : aBuild Tryd.prog 121 xs = (fillA (fun i => some (i * 1, 1)) [AV.int .u64 0, AV.int .u64 0, AV.int .u64 0, AV.int .u64 0, AV.int .u64 0, AV.int .u64 0, AV.int .u64 0, AV.int .u64 0, AV.int .u64 0, AV.int .u64 0, AV.int .u64 0, AV.int .u64 0, AV.int .u64 0, AV.int .u64 0, AV.int .u64 0, AV.int .u64 0, AV.int .u64 0, AV.int .u64 0, AV.int .u64 0, AV.int .u64 0] xs).map .agg := bd_array (n := 20) (e := 113) (by kernel_rfl) (by kernel_rfl) (by kernel_rfl) xs
@[go_sem] theorem T121lf : eqLeaves Tryd.prog 121 = some [Leaf.int, Leaf.int, Leaf.int, Leaf.int, Leaf.int, Leaf.int, Leaf.int, Leaf.int, Leaf.int, Leaf.int, Leaf.int, Leaf.int, Leaf.int, Leaf.int, Leaf.int, Leaf.int, Leaf.int, Leaf.int, Leaf.int, Leaf.int] := by kernel_rfl
@[go_sem] theorem T122s : tSize Tryd.prog 122 = some 1 := by kernel_rfl
@[go_sem] theorem T122a : tAgg Tryd.prog 122 = some false := by kernel_rfl
@[go_sem] theorem T122z : tZero Tryd.prog 122 = some [AV.int .u32 0] := by kernel_rfl
@[go_sem] theorem T122u : Tryd.prog.underlying 122 = some (.int .u32) := by kernel_rfl
@[go_sem] theorem T123s : tSize Tryd.prog 123 = some 65 := by kernel_rfl
@[go_sem] theorem T123a : tAgg Tryd.prog 123 = some true := by kernel_rfl
@[go_sem] theorem T123z : tZero Tryd.prog 123 = some [AV.int .u8 0, AV.int .u8 0, AV.int .u8 0, AV.int .u8 0, AV.int .u8 0, AV.int .u8 0, AV.int .u8 0, AV.int .u8 0, AV.int .u8 0, AV.int .u8 0, AV.int .u8 0, AV.int .u8 0, AV.int .u8 0, AV.int .u8 0, AV.int .u8 0, AV.int .u8 0, AV.int .u8 0, AV.int .u8 0, AV.int .u8 0, AV.int .u8 0, AV.int .u8 0, AV.int .u8 0, AV.int .u8 0, AV.int .u8 0, AV.int .u8 0, AV.int .u8 0, AV.int .u8 0, AV.int .u8 0, AV.int .u8 0, AV.int .u8 0, AV.int .u8 0, AV.int .u8 0, AV.int .u8 0, AV.int .u8 0, AV.int .u8 0, AV.int .u8 0, AV.int .u8 0, AV.int .u8 0, AV.int .u8 0, AV.int .u8 0, AV.int .u8 0, AV.int .u8 0, AV.int .u8 0, AV.int .u8 0, AV.int .u8 0, AV.int .u8 0, AV.int .u8 0, AV.int .u8 0, AV.int .u8 0, AV.int .u8 0, AV.int .u8 0, AV.int .u8 0, AV.int .u8 0, AV.int .u8 0, AV.int .u8 0, AV.int .u8 0, AV.int .u8 0, AV.int .u8 0, AV.int .u8 0, AV.int .u8 0, AV.int .u8 0, AV.int .u8 0, AV.int .u8 0, AV.int .u8 0, AV.int .u8 0] := by kernel_rfl
@[go_sem] theorem T123ln (o x) : aLen Tryd.prog o 123 x = some (.int .i64 65) := ln_arr (e := 5) (by kernel_rfl) o x
@[go_sem] theorem T123ix1 (cs i) : aIndexAddr Tryd.prog 123 (.fptr cs) i = if 0 ≤ i ∧ i < 65 then some (.fptr (cs.drop (i.toNat * 1))) else none := ixa_fptr (n := 65) (e := 5) (s := 1) (by kernel_rfl) (by kernel_rfl) cs i
@[go_sem] theorem T123ix2 (k g off i) : aIndexAddr Tryd.prog 123 (.ptr k g off) i = if 0 ≤ i ∧ i < 65 then some (.ptr k g (off + i.toNat * 1)) else none := ixa_ptr (n := 65) (e := 5) (s := 1) (by kernel_rfl) (by kernel_rfl) k g off i
@[go_sem] theorem T123iv (cs i) : aIndex Tryd.prog 123 (.agg cs) i = if 0 ≤ i ∧ i < 65 then takeT Tryd.prog 5 (cs.drop (i.toNat * 1)) else none := ixv_agg (n := 65) (e := 5) (s := 1) (by kernel_rfl) (by kernel_rfl) cs i
@[go_sem] theorem T123bd (xs) : aBuild Tryd.prog 123 xs = (fillA (fun i => some (i * 1, 1)) [AV.int .u8 0, AV.int .u8 0, AV.int .u8 0, AV.int .u8 0, AV.int .u8 0, AV.int .u8 0, AV.int .u8 0, AV.int .u8 0, AV.int .u8 0, AV.int .u8 0, AV.int .u8 0, AV.int .u8 0, AV.int .u8 0, AV.int .u8 0, AV.int .u8 0, AV.int .u8 0, AV.int .u8 0, AV.int .u8 0, AV.int .u8 0, AV.int .u8 0, AV.int .u8 0, AV.int .u8 0, AV.int .u8 0, AV.int .u8 0, AV.int .u8 0, AV.int .u8 0, AV.int .u8 0, AV.int .u8 0, AV.int .u8 0, AV.int .u8 0, AV.int .u8 0, AV.int .u8 0, AV.int .u8 0, AV.int .u8 0, AV.int .u8 0, AV.int .u8 0, AV.int .u8 0, AV.int .u8 0, AV.int .u8 0, AV.int .u8 0, AV.int .u8 0, AV.int .u8 0, AV.int .u8 0, AV.int .u8 0, AV.int .u8 0, AV.int .u8 0, AV.int .u8 0, AV.int .u8 0, AV.int .u8 0, AV.int .u8 0, AV.int .u8 0, AV.int .u8 0, AV.int .u8 0, AV.int .u8 0, AV.int .u8 0, AV.int .u8 0, AV.int .u8 0, AV.int .u8 0, AV.int .u8 0, AV.int .u8 0, AV.int .u8 0, AV.int .u8 0, AV.int .u8 0, AV.int .u8 0, AV.int .u8 0] xs).map .agg := bd_array (n := 65) (e := 5) (by kernel_rfl) (by kernel_rfl) (by kernel_rfl) xs
@[go_sem] theorem T123lf : eqLeaves Tryd.prog 123 = some [Leaf.int, Leaf.int, Leaf.int, Leaf.int, Leaf.int, Leaf.int, Leaf.int, Leaf.int, Leaf.int, Leaf.int, Leaf.int, Leaf.int, Leaf.int, Leaf.int, Leaf.int, Leaf.int, Leaf.int, Leaf.int, Leaf.int, Leaf.int, Leaf.int, Leaf.int, Leaf.int, Leaf.int, Leaf.int, Leaf.int, Leaf.int, Leaf.int, Leaf.int, Leaf.int, Leaf.int, Leaf.int, Leaf.int, Leaf.int, Leaf.int, Leaf.int, Leaf.int, Leaf.int, Leaf.int, Leaf.int, Leaf.int, Leaf.int, Leaf.int, Leaf.int, Leaf.int, Leaf.int, Leaf.int, Leaf.int, Leaf.int, Leaf.int, Leaf.int, Leaf.int, Leaf.int, Leaf.int, Leaf.int, Leaf.int, Leaf.int, Leaf.int, Leaf.int, Leaf.int, Leaf.int, Leaf.int, Leaf.int, Leaf.int, Leaf.int] := by kernel_rfl
@[go_sem] theorem T126s : tSize Tryd.prog 126 = some 32 := by kernel_rfl
@[go_sem] theorem T126a : tAgg Tryd.prog 126 = some true := by kernel_rfl
@[go_sem] theorem T126z : tZero Tryd.prog 126 = some [AV.int .u8 0, AV.int .u8 0, AV.int .u8 0, AV.int .u8 0, AV.int .u8 0, AV.int .u8 0, AV.int .u8 0, AV.int .u8 0, AV.int .u8 0, AV.int .u8 0, AV.int .u8 0, AV.int .u8 0, AV.int .u8 0, AV.int .u8 0, AV.int .u8 0, AV.int .u8 0, AV.int .u8 0, AV.int .u8 0, AV.int .u8 0, AV.int .u8 0, AV.int .u8 0, AV.int .u8 0, AV.int .u8 0, AV.int .u8 0, AV.int .u8 0, AV.int .u8 0, AV.int .u8 0, AV.int .u8 0, AV.int .u8 0, AV.int .u8 0, AV.int .u8 0, AV.int .u8 0] := by kernel_rfl
@[go_sem] theorem T126ln (o x) : aLen Tryd.prog o 126 x = some (.int .i64 32) := ln_arr (e := 5) (by kernel_rfl) o x
@[go_sem] theorem T126ix1 (cs i) : aIndexAddr Tryd.prog 126 (.fptr cs) i = if 0 ≤ i ∧ i < 32 then some (.fptr (cs.drop (i.toNat * 1))) else none := ixa_fptr (n := 32) (e := 5) (s := 1) (by kernel_rfl) (by kernel_rfl) cs i
@[go_sem] theorem T126ix2 (k g off i) : aIndexAddr Tryd.prog 126 (.ptr k g off) i = if 0 ≤ i ∧ i < 32 then some (.ptr k g (off + i.toNat * 1)) else none := ixa_ptr (n := 32) (e := 5) (s := 1) (by kernel_rfl) (by kernel_rfl) k g off i
@[go_sem] theorem T126iv (cs i) : aIndex Tryd.prog 126 (.agg cs) i = if 0 ≤ i ∧ i < 32 then takeT Tryd.prog 5 (cs.drop (i.toNat * 1)) else none := ixv_agg (n := 32) (e := 5) (s := 1) (by kernel_rfl) (by kernel_rfl) cs i
@[go_sem] theorem T126bd (xs) : aBuild Tryd.prog 126 xs = (fillA (fun i => some (i * 1, 1)) [AV.int .u8 0, AV.int .u8 0, AV.int .u8 0, AV.int .u8 0, AV.int .u8 0, AV.int .u8 0, AV.int .u8 0, AV.int .u8 0, AV.int .u8 0, AV.int .u8 0, AV.int .u8 0, AV.int .u8 0, AV.int .u8 0, AV.int .u8 0, AV.int .u8 0, AV.int .u8 0, AV.int .u8 0, AV.int .u8 0, AV.int .u8 0, AV.int .u8 0, AV.int .u8 0, AV.int .u8 0, AV.int .u8 0, AV.int .u8 0, AV.int .u8 0, AV.int .u8 0, AV.int .u8 0, AV.int .u8 0, AV.int .u8 0, AV.int .u8 0, AV.int .u8 0, AV.int .u8 0] xs).map .agg := bd_array (n := 32) (e := 5) (by kernel_rfl) (by kernel_rfl) (by kernel_rfl) xs
@[go_sem] theorem T126lf : eqLeaves Tryd.prog 126 = some [Leaf.int, Leaf.int, Leaf.int, Leaf.int, Leaf.int, Leaf.int, Leaf.int, Leaf.int, Leaf.int, Leaf.int, Leaf.int, Leaf.int, Leaf.int, Leaf.int, Leaf.int, Leaf.int, Leaf.int, Leaf.int, Leaf.int, Leaf.int, Leaf.int, Leaf.int, Leaf.int, Leaf.int, Leaf.int, Leaf.int, Leaf.int, Leaf.int, Leaf.int, Leaf.int, Leaf.int, Leaf.int] := by kernel_rfl
@[go_sem] theorem T127s : tSize Tryd.prog 127 = some 64 := by kernel_rfl
@[go_sem] theorem T127a : tAgg Tryd.prog 127 = some true := by kernel_rfl
@[go_sem] theorem T127z : tZero Tryd.prog 127 = some [AV.int .u8 0, AV.int .u8 0, AV.int .u8 0, AV.int .u8 0, AV.int .u8 0, AV.int .u8 0, AV.int .u8 0, AV.int .u8 0, AV.int .u8 0, AV.int .u8 0, AV.int .u8 0, AV.int .u8 0, AV.int .u8 0, AV.int .u8 0, AV.int .u8 0, AV.int .u8 0, AV.int .u8 0, AV.int .u8 0, AV.int .u8 0, AV.int .u8 0, AV.int .u8 0, AV.int .u8 0, AV.int .u8 0, AV.int .u8 0, AV.int .u8 0, AV.int .u8 0, AV.int .u8 0, AV.int .u8 0, AV.int .u8 0, AV.int .u8 0, AV.int .u8 0, AV.int .u8 0, AV.int .u8 0, AV.int .u8 0, AV.int .u8 0, AV.int .u8 0, AV.int .u8 0, AV.int .u8 0, AV.int .u8 0, AV.int .u8 0, AV.int .u8 0, AV.int .u8 0, AV.int .u8 0, AV.int .u8 0, AV.int .u8 0, AV.int .u8 0, AV.int .u8 0, AV.int .u8 0, AV.int .u8 0, AV.int .u8 0, AV.int .u8 0, AV.int .u8 0, AV.int .u8 0, AV.int .u8 0, AV.int .u8 0, AV.int .u8 0, AV.int .u8 0, AV.int .u8 0, AV.int .u8 0, AV.int .u8 0, AV.int .u8 0, AV.int .u8 0, AV.int .u8 0, AV.int .u8 0] := by kernel_rfl
@[go_sem] theorem T127ln (o x) : aLen Tryd.prog o 127 x = some (.int .i64 64) := ln_arr (e := 5) (by kernel_rfl) o x
@[go_sem] theorem T127ix1 (cs i) : aIndexAddr Tryd.prog 127 (.fptr cs) i = if 0 ≤ i ∧ i < 64 then some (.fptr (cs.drop (i.toNat * 1))) else none := ixa_fptr (n := 64) (e := 5) (s := 1) (by kernel_rfl) (by kernel_rfl) cs i
@[go_sem] theorem T127ix2 (k g off i) : aIndexAddr Tryd.prog 127 (.ptr k g off) i = if 0 ≤ i ∧ i < 64 then some (.ptr k g (off + i.toNat * 1)) else none := ixa_ptr (n := 64) (e := 5) (s := 1) (by kernel_rfl) (by kernel_rfl) k g off i
@[go_sem] theorem T127iv (cs i) : aIndex Tryd.prog 127 (.agg cs) i = if 0 ≤ i ∧ i < 64 then takeT Tryd.prog 5 (cs.drop (i.toNat * 1)) else none := ixv_agg (n := 64) (e := 5) (s := 1) (by kernel_rfl) (by kernel_rfl) cs i
@[go_sem] theorem T127bd (xs) : aBuild Tryd.prog 127 xs = (fillA (fun i => some (i * 1, 1)) [AV.int .u8 0, AV.int .u8 0, AV.int .u8 0, AV.int .u8 0, AV.int .u8 0, AV.int .u8 0, AV.int .u8 0, AV.int .u8 0, AV.int .u8 0, AV.int .u8 0, AV.int .u8 0, AV.int .u8 0, AV.int .u8 0, AV.int .u8 0, AV.int .u8 0, AV.int .u8 0, AV.int .u8 0, AV.int .u8 0, AV.int .u8 0, AV.int .u8 0, AV.int .u8 0, AV.int .u8 0, AV.int .u8 0, AV.int .u8 0, AV.int .u8 0, AV.int .u8 0, AV.int .u8 0, AV.int .u8 0, AV.int .u8 0, AV.int .u8 0, AV.int .u8 0, AV.int .u8 0, AV.int .u8 0, AV.int .u8 0, AV.int .u8 0, AV.int .u8 0, AV.int .u8 0, AV.int .u8 0, AV.int .u8 0, AV.int .u8 0, AV.int .u8 0, AV.int .u8 0, AV.int .u8 0, AV.int .u8 0, AV.int .u8 0, AV.int .u8 0, AV.int .u8 0, AV.int .u8 0, AV.int .u8 0, AV.int .u8 0, AV.int .u8 0, AV.int .u8 0, AV.int .u8 0, AV.int .u8 0, AV.int .u8 0, AV.int .u8 0, AV.int .u8 0, AV.int .u8 0, AV.int .u8 0, AV.int .u8 0, AV.int .u8 0, AV.int .u8 0, AV.int .u8 0, AV.int .u8 0] xs).map .agg := bd_array (n := 64) (e := 5) (by kernel_rfl) (by kernel_rfl) (by kernel_rfl) xs
@[go_sem] theorem T127lf : eqLeaves Tryd.prog 127 = some [Leaf.int, Leaf.int, Leaf.int, Leaf.int, Leaf.int, Leaf.int, Leaf.int, Leaf.int, Leaf.int, Leaf.int, Leaf.int, Leaf.int, Leaf.int, Leaf.int, Leaf.int, Leaf.int, Leaf.int, Leaf.int, Leaf.int, Leaf.int, Leaf.int, Leaf.int, Leaf.int, Leaf.int, Leaf.int, Leaf.int, Leaf.int, Leaf.int, Leaf.int, Leaf.int, Leaf.int, Leaf.int, Leaf.int, Leaf.int, Leaf.int, Leaf.int, Leaf.int, Leaf.int, Leaf.int, Leaf.int, Leaf.int, Leaf.int, Leaf.int, Leaf.int, Leaf.int, Leaf.int, Leaf.int, Leaf.int, Leaf.int, Leaf.int, Leaf.int, Leaf.int, Leaf.int, Leaf.int, Leaf.int, Leaf.int, Leaf.int, Leaf.int, Leaf.int, Leaf.int, Leaf.int, Leaf.int, Leaf.int, Leaf.int] := by kernel_rfl
@[go_sem] theorem T129s : tSize Tryd.prog 129 = some 4 := by kernel_rfl
@[go_sem] theorem T129a : tAgg Tryd.prog 129 = some true := by kernel_rfl
@[go_sem] theorem T129z : tZero Tryd.prog 129 = some [AV.nilp, AV.nilp, AV.nilp, AV.str []] := by kernel_rfl
@[go_sem] theorem T129f0p (k g off) : fieldAddrA Tryd.prog 129 0 (.ptr k g off) = some (.ptr k g (off + 0)) := fa_ptr (s := 0) (ft := 17) (by kernel_rfl) (by kernel_rfl) k g off
@[go_sem] theorem T129f0q (cs) : fieldAddrA Tryd.prog 129 0 (.fptr cs) = some (.fptr (cs.drop 0)) := fa_fptr (s := 0) (ft := 17) (by kernel_rfl) (by kernel_rfl) cs
@[go_sem] theorem T129f0v (cs) : fieldA Tryd.prog 129 0 (.agg cs) = takeT Tryd.prog 17 (cs.drop 0) := fi_agg (by kernel_rfl) cs
@[go_sem] theorem T129f1p (k g off) : fieldAddrA Tryd.prog 129 1 (.ptr k g off) = some (.ptr k g (off + 1)) := fa_ptr (s := 0) (ft := 17) (by kernel_rfl) (by kernel_rfl) k g off
@[go_sem] theorem T129f1q (cs) : fieldAddrA Tryd.prog 129 1 (.fptr cs) = some (.fptr (cs.drop 1)) := fa_fptr (s := 0) (ft := 17) (by kernel_rfl) (by kernel_rfl) cs
@[go_sem] theorem T129f1v (cs) : fieldA Tryd.prog 129 1 (.agg cs) = takeT Tryd.prog 17 (cs.drop 1) := fi_agg (by kernel_rfl) cs
@[go_sem] theorem T129f2p (k g off) : fieldAddrA Tryd.prog 129 2 (.ptr k g off) = some (.ptr k g (off + 2)) := fa_ptr (s := 0) (ft := 17) (by kernel_rfl) (by kernel_rfl) k g off
@[go_sem] theorem T129f2q (cs) : fieldAddrA Tryd.prog 129 2 (.fptr cs) = some (.fptr (cs.drop 2)) := fa_fptr (s := 0) (ft := 17) (by kernel_rfl) (by kernel_rfl) cs
@[go_sem] theorem T129f2v (cs) : fieldA Tryd.prog 129 2 (.agg cs) = takeT Tryd.prog 17 (cs.drop 2) := fi_agg (by kernel_rfl) cs
@[go_sem] theorem T129f3p (k g off) : fieldAddrA Tryd.prog 129 3 (.ptr k g off) = some (.ptr k g (off + 3)) := fa_ptr (s := 0) (ft := 9) (by kernel_rfl) (by kernel_rfl) k g off
@[go_sem] theorem T129f3q (cs) : fieldAddrA Tryd.prog 129 3 (.fptr cs) = some (.fptr (cs.drop 3)) := fa_fptr (s := 0) (ft := 9) (by kernel_rfl) (by kernel_rfl) cs
@[go_sem] theorem T129f3v (cs) : fieldA Tryd.prog 129 3 (.agg cs) = takeT Tryd.prog 9 (cs.drop 3) := fi_agg (by kernel_rfl) cs
@[go_sem] theorem T129bd (xs) : aBuild Tryd.prog 129 xs = (fillA (fun i => ([(0, 1), (1, 1), (2, 1), (3, 1)] : List (Nat × Nat))[i]?) [AV.nilp, AV.nilp, AV.nilp, AV.str []] xs).map .agg := by kernel_rfl
@[go_sem] theorem T130s : tSize Tryd.prog 130 = some 4 := by kernel_rfl
@[go_sem] theorem T130a : tAgg Tryd.prog 130 = some true := by kernel_rfl
@[go_sem] theorem T130z : tZero Tryd.prog 130 = some [AV.nilp, AV.nilp, AV.nilp, AV.str []] := by kernel_rfl
@[go_sem] theorem T130f0p (k g off) : fieldAddrA Tryd.prog 130 0 (.ptr k g off) = some (.ptr k g (off + 0)) := fa_ptr (s := 0) (ft := 17) (by kernel_rfl) (by kernel_rfl) k g off
@[go_sem] theorem T130f0q (cs) : fieldAddrA Tryd.prog 130 0 (.fptr cs) = some (.fptr (cs.drop 0)) := fa_fptr (s := 0) (ft := 17) (by kernel_rfl) (by kernel_rfl) cs
@[go_sem] theorem T130f0v (cs) : fieldA Tryd.prog 130 0 (.agg cs) = takeT Tryd.prog 17 (cs.drop 0) := fi_agg (by kernel_rfl) cs
@[go_sem] theorem T130f1p (k g off) : fieldAddrA Tryd.prog 130 1 (.ptr k g off) = some (.ptr k g (off + 1)) := fa_ptr (s := 0) (ft := 17) (by kernel_rfl) (by kernel_rfl) k g off
@[go_sem] theorem T130f1q (cs) : fieldAddrA Tryd.prog 130 1 (.fptr cs) = some (.fptr (cs.drop 1)) := fa_fptr (s := 0) (ft := 17) (by kernel_rfl) (by kernel_rfl) cs
@[go_sem] theorem T130f1v (cs) : fieldA Tryd.prog 130 1 (.agg cs) = takeT Tryd.prog 17 (cs.drop 1) := fi_agg (by kernel_rfl) cs
@[go_sem] theorem T130f2p (k g off) : fieldAddrA Tryd.prog 130 2 (.ptr k g off) = some (.ptr k g (off + 2)) := fa_ptr (s := 0) (ft := 17) (by kernel_rfl) (by kernel_rfl) k g off
@[go_sem] theorem T130f2q (cs) : fieldAddrA Tryd.prog 130 2 (.fptr cs) = some (.fptr (cs.drop 2)) := fa_fptr (s := 0) (ft := 17) (by kernel_rfl) (by kernel_rfl) cs
@[go_sem] theorem T130f2v (cs) : fieldA Tryd.prog 130 2 (.agg cs) = takeT Tryd.prog 17 (cs.drop 2) := fi_agg (by kernel_rfl) cs
@[go_sem] theorem T130f3p (k g off) : fieldAddrA Tryd.prog 130 3 (.ptr k g off) = some (.ptr k g (off + 3)) := fa_ptr (s := 0) (ft := 9) (by kernel_rfl) (by kernel_rfl) k g off
@[go_sem] theorem T130f3q (cs) : fieldAddrA Tryd.prog 130 3 (.fptr cs) = some (.fptr (cs.drop 3)) := fa_fptr (s := 0) (ft := 9) (by kernel_rfl) (by kernel_rfl) cs
@[go_sem] theorem T130f3v (cs) : fieldA Tryd.prog 130 3 (.agg cs) = takeT Tryd.prog 9 (cs.drop 3) := fi_agg (by kernel_rfl) cs
@[go_sem] theorem T130bd (xs) : aBuild Tryd.prog 130 xs = (fillA (fun i => ([(0, 1), (1, 1), (2, 1), (3, 1)] : List (Nat × Nat))[i]?) [AV.nilp, AV.nilp, AV.nilp, AV.str []] xs).map .agg := by kernel_rfl
@[go_sem] theorem T131s : tSize Tryd.prog 131 = some 0 := by kernel_rfl
@[go_sem] theorem T131a : tAgg Tryd.prog 131 = some true := by kernel_rfl
@[go_sem] theorem T131z : tZero Tryd.prog 131 = some [] := by kernel_rfl
@[go_sem] theorem T131ln (o x) : aLen Tryd.prog o 131 x = some (.int .i64 0) := ln_arr (e := 16) (by kernel_rfl) o x
@[go_sem] theorem T131ix1 (cs i) : aIndexAddr Tryd.prog 131 (.fptr cs) i = if 0 ≤ i ∧ i < 0 then some (.fptr (cs.drop (i.toNat * 1))) else none := ixa_fptr (n := 0) (e := 16) (s := 1) (by kernel_rfl) (by kernel_rfl) cs i
@[go_sem] theorem T131ix2 (k g off i) : aIndexAddr Tryd.prog 131 (.ptr k g off) i = if 0 ≤ i ∧ i < 0 then some (.ptr k g (off + i.toNat * 1)) else none := ixa_ptr (n := 0) (e := 16) (s := 1) (by kernel_rfl) (by kernel_rfl) k g off i
@[go_sem] theorem T131iv (cs i) : aIndex Tryd.prog 131 (.agg cs) i = if 0 ≤ i ∧ i < 0 then takeT Tryd.prog 16 (cs.drop (i.toNat * 1)) else none := ixv_agg (n := 0) (e := 16) (s := 1) (by kernel_rfl) (by kernel_rfl) cs i
@[go_sem] theorem T131bd (xs) : aBuild Tryd.prog 131 xs = (fillA (fun i => some (i * 1, 1)) [] xs).map .agg := bd_array (n := 0) (e := 16) (by kernel_rfl) (by kernel_rfl) (by kernel_rfl) xs
@[go_sem] theorem T132s : tSize Tryd.prog 132 = some 0 := by kernel_rfl
@[go_sem] theorem T132a : tAgg Tryd.prog 132 = some true := by kernel_rfl
@[go_sem] theorem T132z : tZero Tryd.prog 132 = some [] := by kernel_rfl
@[go_sem] theorem T132bd (xs) : aBuild Tryd.prog 132 xs = (fillA (fun i => ([(0, 0)] : List (Nat × Nat))[i]?) [] xs).map .agg := by kernel_rfl
@[go_sem] theorem T133s : tSize Tryd.prog 133 = some 0 := by kernel_rfl
@[go_sem] theorem T133a : tAgg Tryd.prog 133 = some true := by kernel_rfl
@[go_sem] theorem T133z : tZero Tryd.prog 133 = some [] := by kernel_rfl
@[go_sem] theorem T133bd (xs) : aBuild Tryd.prog 133 xs = (fillA (fun i => ([(0, 0)] : List (Nat × Nat))[i]?) [] xs).map .agg := by kernel_rfl
@[go_sem] theorem T134s : tSize Tryd.prog 134 = some 1 := by kernel_rfl
@[go_sem] theorem T134a : tAgg Tryd.prog 134 = some false := by kernel_rfl
@[go_sem] theorem T134z : tZero Tryd.prog 134 = some [AV.int .u8 0] := by kernel_rfl
@[go_sem] theorem T134u : Tryd.prog.underlying 134 = some (.int .u8) := by kernel_rfl
@[go_sem] theorem T135s : tSize Tryd.prog 135 = some 1 := by kernel_rfl
@[go_sem] theorem T135a : tAgg Tryd.prog 135 = some false := by kernel_rfl
@[go_sem] theorem T135z : tZero Tryd.prog 135 = some [AV.int .u8 0] := by kernel_rfl
@[go_sem] theorem T135u : Tryd.prog.underlying 135 = some (.int .u8) := by kernel_rfl
@[go_sem] theorem T137s : tSize Tryd.prog 137 = some 1 := by kernel_rfl
@[go_sem] theorem T137a : tAgg Tryd.prog 137 = some false := by kernel_rfl
@[go_sem] theorem T137z : tZero Tryd.prog 137 = some [AV.nilp] := by kernel_rfl
@[go_sem] theorem T138s : tSize Tryd.prog 138 = some 1 := by kernel_rfl
@[go_sem] theorem T138a : tAgg Tryd.prog 138 = some false := by kernel_rfl
@[go_sem] theorem T138z : tZero Tryd.prog 138 = some [AV.int .i32 0] := by kernel_rfl
@[go_sem] theorem T138u : Tryd.prog.underlying 138 = some (.int .i32) := by kernel_rfl
@[go_sem] theorem T139s : tSize Tryd.prog 139 = some 1 := by kernel_rfl
@[go_sem] theorem T139a : tAgg Tryd.prog 139 = some false := by kernel_rfl
@[go_sem] theorem T139z : tZero Tryd.prog 139 = some [AV.int .i32 0] := by kernel_rfl
@[go_sem] theorem T139u : Tryd.prog.underlying 139 = some (.int .i32) := by kernel_rfl
@[go_sem] theorem T140s : tSize Tryd.prog 140 = some 11 := by kernel_rfl
@[go_sem] theorem T140a : tAgg Tryd.prog 140 = some true := by kernel_rfl
@[go_sem] theorem T140f0p (k g off) : fieldAddrA Tryd.prog 140 0 (.ptr k g off) = some (.ptr k g (off + 0)) := fa_ptr (s := 0) (ft := 12) (by kernel_rfl) (by kernel_rfl) k g off
@[go_sem] theorem T140f0q (cs) : fieldAddrA Tryd.prog 140 0 (.fptr cs) = some (.fptr (cs.drop 0)) := fa_fptr (s := 0) (ft := 12) (by kernel_rfl) (by kernel_rfl) cs
@[go_sem] theorem T140f0v (cs) : fieldA Tryd.prog 140 0 (.agg cs) = takeT Tryd.prog 12 (cs.drop 0) := fi_agg (by kernel_rfl) cs
@[go_sem] theorem T140f1p (k g off) : fieldAddrA Tryd.prog 140 1 (.ptr k g off) = some (.ptr k g (off + 1)) := fa_ptr (s := 0) (ft := 12) (by kernel_rfl) (by kernel_rfl) k g off
@[go_sem] theorem T140f1q (cs) : fieldAddrA Tryd.prog 140 1 (.fptr cs) = some (.fptr (cs.drop 1)) := fa_fptr (s := 0) (ft := 12) (by kernel_rfl) (by kernel_rfl) cs
@[go_sem] theorem T140f1v (cs) : fieldA Tryd.prog 140 1 (.agg cs) = takeT Tryd.prog 12 (cs.drop 1) := fi_agg (by kernel_rfl) cs
@[go_sem] theorem T140f2p (k g off) : fieldAddrA Tryd.prog 140 2 (.ptr k g off) = some (.ptr k g (off + 2)) := fa_ptr (s := 0) (ft := 122) (by kernel_rfl) (by kernel_rfl) k g off
@[go_sem] theorem T140f2q (cs) : fieldAddrA Tryd.prog 140 2 (.fptr cs) = some (.fptr (cs.drop 2)) := fa_fptr (s := 0) (ft := 122) (by kernel_rfl) (by kernel_rfl) cs
@[go_sem] theorem T140f2v (cs) : fieldA Tryd.prog 140 2 (.agg cs) = takeT Tryd.prog 122 (cs.drop 2) := fi_agg (by kernel_rfl) cs
@[go_sem] theorem T140f3p (k g off) : fieldAddrA Tryd.prog 140 3 (.ptr k g off) = some (.ptr k g (off + 3)) := fa_ptr (s := 0) (ft := 134) (by kernel_rfl) (by kernel_rfl) k g off
@[go_sem] theorem T140f3q (cs) : fieldAddrA Tryd.prog 140 3 (.fptr cs) = some (.fptr (cs.drop 3)) := fa_fptr (s := 0) (ft := 134) (by kernel_rfl) (by kernel_rfl) cs
@[go_sem] theorem T140f3v (cs) : fieldA Tryd.prog 140 3 (.agg cs) = takeT Tryd.prog 134 (cs.drop 3) := fi_agg (by kernel_rfl) cs
@[go_sem] theorem T140f4p (k g off) : fieldAddrA Tryd.prog 140 4 (.ptr k g off) = some (.ptr k g (off + 4)) := fa_ptr (s := 0) (ft := 5) (by kernel_rfl) (by kernel_rfl) k g off
@[go_sem] theorem T140f4q (cs) : fieldAddrA Tryd.prog 140 4 (.fptr cs) = some (.fptr (cs.drop 4)) := fa_fptr (s := 0) (ft := 5) (by kernel_rfl) (by kernel_rfl) cs
@[go_sem] theorem T140f4v (cs) : fieldA Tryd.prog 140 4 (.agg cs) = takeT Tryd.prog 5 (cs.drop 4) := fi_agg (by kernel_rfl) cs
@[go_sem] theorem T140f5p (k g off) : fieldAddrA Tryd.prog 140 5 (.ptr k g off) = some (.ptr k g (off + 5)) := fa_ptr (s := 0) (ft := 5) (by kernel_rfl) (by kernel_rfl) k g off
@[go_sem] theorem T140f5q (cs) : fieldAddrA Tryd.prog 140 5 (.fptr cs) = some (.fptr (cs.drop 5)) := fa_fptr (s := 0) (ft := 5) (by kernel_rfl) (by kernel_rfl) cs
@[go_sem] theorem T140f5v (cs) : fieldA Tryd.prog 140 5 (.agg cs) = takeT Tryd.prog 5 (cs.drop 5) := fi_agg (by kernel_rfl) cs
@[go_sem] theorem T140f6p (k g off) : fieldAddrA Tryd.prog 140 6 (.ptr k g off) = some (.ptr k g (off + 6)) := fa_ptr (s := 0) (ft := 135) (by kernel_rfl) (by kernel_rfl) k g off
@[go_sem] theorem T140f6q (cs) : fieldAddrA Tryd.prog 140 6 (.fptr cs) = some (.fptr (cs.drop 6)) := fa_fptr (s := 0) (ft := 135) (by kernel_rfl) (by kernel_rfl) cs
@[go_sem] theorem T140f6v (cs) : fieldA Tryd.prog 140 6 (.agg cs) = takeT Tryd.prog 135 (cs.drop 6) := fi_agg (by kernel_rfl) cs
@[go_sem] theorem T140f7p (k g off) : fieldAddrA Tryd.prog 140 7 (.ptr k g off) = some (.ptr k g (off + 7)) := fa_ptr (s := 0) (ft := 136) (by kernel_rfl) (by kernel_rfl) k g off
@[go_sem] theorem T140f7q (cs) : fieldAddrA Tryd.prog 140 7 (.fptr cs) = some (.fptr (cs.drop 7)) := fa_fptr (s := 0) (ft := 136) (by kernel_rfl) (by kernel_rfl) cs
@[go_sem] theorem T140f7v (cs) : fieldA Tryd.prog 140 7 (.agg cs) = takeT Tryd.prog 136 (cs.drop 7) := fi_agg (by kernel_rfl) cs
@[go_sem] theorem T140f8p (k g off) : fieldAddrA Tryd.prog 140 8 (.ptr k g off) = some (.ptr k g (off + 8)) := fa_ptr (s := 0) (ft := 137) (by kernel_rfl) (by kernel_rfl) k g off
@[go_sem] theorem T140f8q (cs) : fieldAddrA Tryd.prog 140 8 (.fptr cs) = some (.fptr (cs.drop 8)) := fa_fptr (s := 0) (ft := 137) (by kernel_rfl) (by kernel_rfl) cs
@[go_sem] theorem T140f8v (cs) : fieldA Tryd.prog 140 8 (.agg cs) = takeT Tryd.prog 137 (cs.drop 8) := fi_agg (by kernel_rfl) cs
@[go_sem] theorem T140f9p (k g off) : fieldAddrA Tryd.prog 140 9 (.ptr k g off) = some (.ptr k g (off + 9)) := fa_ptr (s := 0) (ft := 138) (by kernel_rfl) (by kernel_rfl) k g off
@[go_sem] theorem T140f9q (cs) : fieldAddrA Tryd.prog 140 9 (.fptr cs) = some (.fptr (cs.drop 9)) := fa_fptr (s := 0) (ft := 138) (by kernel_rfl) (by kernel_rfl) cs
@[go_sem] theorem T140f9v (cs) : fieldA Tryd.prog 140 9 (.agg cs) = takeT Tryd.prog 138 (cs.drop 9) := fi_agg (by kernel_rfl) cs
@[go_sem] theorem T140f10p (k g off) : fieldAddrA Tryd.prog 140 10 (.ptr k g off) = some (.ptr k g (off + 10)) := fa_ptr (s := 0) (ft := 139) (by kernel_rfl) (by kernel_rfl) k g off
@[go_sem] theorem T140f10q (cs) : fieldAddrA Tryd.prog 140 10 (.fptr cs) = some (.fptr (cs.drop 10)) := fa_fptr (s := 0) (ft := 139) (by kernel_rfl) (by kernel_rfl) cs
@[go_sem] theorem T140f10v (cs) : fieldA Tryd.prog 140 10 (.agg cs) = takeT Tryd.prog 139 (cs.drop 10) := fi_agg (by kernel_rfl) cs
@[go_sem] theorem T141s : tSize Tryd.prog 141 = some 11 := by kernel_rfl
@[go_sem] theorem T141a : tAgg Tryd.prog 141 = some true := by kernel_rfl
@[go_sem] theorem T141f0p (k g off) : fieldAddrA Tryd.prog 141 0 (.ptr k g off) = some (.ptr k g (off + 0)) := fa_ptr (s := 0) (ft := 12) (by kernel_rfl) (by kernel_rfl) k g off
@[go_sem] theorem T141f0q (cs) : fieldAddrA Tryd.prog 141 0 (.fptr cs) = some (.fptr (cs.drop 0)) := fa_fptr (s := 0) (ft := 12) (by kernel_rfl) (by kernel_rfl) cs
@[go_sem] theorem T141f0v (cs) : fieldA Tryd.prog 141 0 (.agg cs) = takeT Tryd.prog 12 (cs.drop 0) := fi_agg (by kernel_rfl) cs
@[go_sem] theorem T141f1p (k g off) : fieldAddrA Tryd.prog 141 1 (.ptr k g off) = some (.ptr k g (off + 1)) := fa_ptr (s := 0) (ft := 12) (by kernel_rfl) (by kernel_rfl) k g off
@[go_sem] theorem T141f1q (cs) : fieldAddrA Tryd.prog 141 1 (.fptr cs) = some (.fptr (cs.drop 1)) := fa_fptr (s := 0) (ft := 12) (by kernel_rfl) (by kernel_rfl) cs
@[go_sem] theorem T141f1v (cs) : fieldA Tryd.prog 141 1 (.agg cs) = takeT Tryd.prog 12 (cs.drop 1) := fi_agg (by kernel_rfl) cs
@[go_sem] theorem T141f2p (k g off) : fieldAddrA Tryd.prog 141 2 (.ptr k g off) = some (.ptr k g (off + 2)) := fa_ptr (s := 0) (ft := 122) (by kernel_rfl) (by kernel_rfl) k g off
@[go_sem] theorem T141f2q (cs) : fieldAddrA Tryd.prog 141 2 (.fptr cs) = some (.fptr (cs.drop 2)) := fa_fptr (s := 0) (ft := 122) (by kernel_rfl) (by kernel_rfl) cs
@[go_sem] theorem T141f2v (cs) : fieldA Tryd.prog 141 2 (.agg cs) = takeT Tryd.prog 122 (cs.drop 2) := fi_agg (by kernel_rfl) cs
@[go_sem] theorem T141f3p (k g off) : fieldAddrA Tryd.prog 141 3 (.ptr k g off) = some (.ptr k g (off + 3)) := fa_ptr (s := 0) (ft := 134) (by kernel_rfl) (by kernel_rfl) k g off
@[go_sem] theorem T141f3q (cs) : fieldAddrA Tryd.prog 141 3 (.fptr cs) = some (.fptr (cs.drop 3)) := fa_fptr (s := 0) (ft := 134) (by kernel_rfl) (by kernel_rfl) cs
@[go_sem] theorem T141f3v (cs) : fieldA Tryd.prog 141 3 (.agg cs) = takeT Tryd.prog 134 (cs.drop 3) := fi_agg (by kernel_rfl) cs
@[go_sem] theorem T141f4p (k g off) : fieldAddrA Tryd.prog 141 4 (.ptr k g off) = some (.ptr k g (off + 4)) := fa_ptr (s := 0) (ft := 5) (by kernel_rfl) (by kernel_rfl) k g off
@[go_sem] theorem T141f4q (cs) : fieldAddrA Tryd.prog 141 4 (.fptr cs) = some (.fptr (cs.drop 4)) := fa_fptr (s := 0) (ft := 5) (by kernel_rfl) (by kernel_rfl) cs
@[go_sem] theorem T141f4v (cs) : fieldA Tryd.prog 141 4 (.agg cs) = takeT Tryd.prog 5 (cs.drop 4) := fi_agg (by kernel_rfl) cs
@[go_sem] theorem T141f5p (k g off) : fieldAddrA Tryd.prog 141 5 (.ptr k g off) = some (.ptr k g (off + 5)) := fa_ptr (s := 0) (ft := 5) (by kernel_rfl) (by kernel_rfl) k g off
@[go_sem] theorem T141f5q (cs) : fieldAddrA Tryd.prog 141 5 (.fptr cs) = some (.fptr (cs.drop 5)) := fa_fptr (s := 0) (ft := 5) (by kernel_rfl) (by kernel_rfl) cs
@[go_sem] theorem T141f5v (cs) : fieldA Tryd.prog 141 5 (.agg cs) = takeT Tryd.prog 5 (cs.drop 5) := fi_agg (by kernel_rfl) cs
@[go_sem] theorem T141f6p (k g off) : fieldAddrA Tryd.prog 141 6 (.ptr k g off) = some (.ptr k g (off + 6)) := fa_ptr (s := 0) (ft := 135) (by kernel_rfl) (by kernel_rfl) k g off
@[go_sem] theorem T141f6q (cs) : fieldAddrA Tryd.prog 141 6 (.fptr cs) = some (.fptr (cs.drop 6)) := fa_fptr (s := 0) (ft := 135) (by kernel_rfl) (by kernel_rfl) cs
@[go_sem] theorem T141f6v (cs) : fieldA Tryd.prog 141 6 (.agg cs) = takeT Tryd.prog 135 (cs.drop 6) := fi_agg (by kernel_rfl) cs
@[go_sem] theorem T141f7p (k g off) : fieldAddrA Tryd.prog 141 7 (.ptr k g off) = some (.ptr k g (off + 7)) := fa_ptr (s := 0) (ft := 136) (by kernel_rfl) (by kernel_rfl) k g off
@[go_sem] theorem T141f7q (cs) : fieldAddrA Tryd.prog 141 7 (.fptr cs) = some (.fptr (cs.drop 7)) := fa_fptr (s := 0) (ft := 136) (by kernel_rfl) (by kernel_rfl) cs
@[go_sem] theorem T141f7v (cs) : fieldA Tryd.prog 141 7 (.agg cs) = takeT Tryd.prog 136 (cs.drop 7) := fi_agg (by kernel_rfl) cs
@[go_sem] theorem T141f8p (k g off) : fieldAddrA Tryd.prog 141 8 (.ptr k g off) = some (.ptr k g (off + 8)) := fa_ptr (s := 0) (ft := 137) (by kernel_rfl) (by kernel_rfl) k g off
@[go_sem] theorem T141f8q (cs) : fieldAddrA Tryd.prog 141 8 (.fptr cs) = some (.fptr (cs.drop 8)) := fa_fptr (s := 0) (ft := 137) (by kernel_rfl) (by kernel_rfl) cs
@[go_sem] theorem T141f8v (cs) : fieldA Tryd.prog 141 8 (.agg cs) = takeT Tryd.prog 137 (cs.drop 8) := fi_agg (by kernel_rfl) cs
@[go_sem] theorem T141f9p (k g off) : fieldAddrA Tryd.prog 141 9 (.ptr k g off) = some (.ptr k g (off + 9)) := fa_ptr (s := 0) (ft := 138) (by kernel_rfl) (by kernel_rfl) k g off
@[go_sem] theorem T141f9q (cs) : fieldAddrA Tryd.prog 141 9 (.fptr cs) = some (.fptr (cs.drop 9)) := fa_fptr (s := 0) (ft := 138) (by kernel_rfl) (by kernel_rfl) cs
@[go_sem] theorem T141f9v (cs) : fieldA Tryd.prog 141 9 (.agg cs) = takeT Tryd.prog 138 (cs.drop 9) := fi_agg (by kernel_rfl) cs
@[go_sem] theorem T141f10p (k g off) : fieldAddrA Tryd.prog 141 10 (.ptr k g off) = some (.ptr k g (off + 10)) := fa_ptr (s := 0) (ft := 139) (by kernel_rfl) (by kernel_rfl) k g off
@[go_sem] theorem T141f10q (cs) : fieldAddrA Tryd.prog 141 10 (.fptr cs) = some (.fptr (cs.drop 10)) := fa_fptr (s := 0) (ft := 139) (by kernel_rfl) (by kernel_rfl) cs
@[go_sem] theorem T141f10v (cs) : fieldA Tryd.prog 141 10 (.agg cs) = takeT Tryd.prog 139 (cs.drop 10) := fi_agg (by kernel_rfl) cs
@[go_sem] theorem C2_3 (tg k n o nx) : aConvert Tryd.prog tg 2 3 (.int k n) ⟨o, nx⟩ = some (.int .i64 (IntKind.wrap .i64 n), ⟨o, nx⟩) := cv_int (td := .int .i64) (by kernel_rfl) (by kernel_rfl) tg k n o nx
@[go_sem] theorem C2_5 (tg k n o nx) : aConvert Tryd.prog tg 2 5 (.int k n) ⟨o, nx⟩ = some (.int .u8 (IntKind.wrap .u8 n), ⟨o, nx⟩) := cv_int (td := .int .i64) (by kernel_rfl) (by kernel_rfl) tg k n o nx
@[go_sem] theorem C2_43 (tg k n o nx) : aConvert Tryd.prog tg 2 43 (.int k n) ⟨o, nx⟩ = some (.int .i64 (IntKind.wrap .i64 n), ⟨o, nx⟩) := cv_int (td := .int .i64) (by kernel_rfl) (by kernel_rfl) tg k n o nx
@[go_sem] theorem C2_63 (tg k n o nx) : aConvert Tryd.prog tg 2 63 (.int k n) ⟨o, nx⟩ = some (.int .u64 (IntKind.wrap .u64 n), ⟨o, nx⟩) := cv_int (td := .int .i64) (by kernel_rfl) (by kernel_rfl) tg k n o nx
@[go_sem] theorem C2_113 (tg k n o nx) : aConvert Tryd.prog tg 2 113 (.int k n) ⟨o, nx⟩ = some (.int .u64 (IntKind.wrap .u64 n), ⟨o, nx⟩) := cv_int (td := .int .i64) (by kernel_rfl) (by kernel_rfl) tg k n o nx
@[go_sem] theorem C2_122 (tg k n o nx) : aConvert Tryd.prog tg 2 122 (.int k n) ⟨o, nx⟩ = some (.int .u32 (IntKind.wrap .u32 n), ⟨o, nx⟩) := cv_int (td := .int .i64) (by kernel_rfl) (by kernel_rfl) tg k n o nx
@[go_sem] theorem C3_2 (tg k n o nx) : aConvert Tryd.prog tg 3 2 (.int k n) ⟨o, nx⟩ = some (.int .i64 (IntKind.wrap .i64 n), ⟨o, nx⟩) := cv_int (td := .int .i64) (by kernel_rfl) (by kernel_rfl) tg k n o nx
@[go_sem] theorem C3_5 (tg k n o nx) : aConvert Tryd.prog tg 3 5 (.int k n) ⟨o, nx⟩ = some (.int .u8 (IntKind.wrap .u8 n), ⟨o, nx⟩) := cv_int (td := .int .i64) (by kernel_rfl) (by kernel_rfl) tg k n o nx
@[go_sem] theorem C3_43 (tg k n o nx) : aConvert Tryd.prog tg 3 43 (.int k n) ⟨o, nx⟩ = some (.int .i64 (IntKind.wrap .i64 n), ⟨o, nx⟩) := cv_int (td := .int .i64) (by kernel_rfl) (by kernel_rfl) tg k n o nx
@[go_sem] theorem C3_63 (tg k n o nx) : aConvert Tryd.prog tg 3 63 (.int k n) ⟨o, nx⟩ = some (.int .u64 (IntKind.wrap .u64 n), ⟨o, nx⟩) := cv_int (td := .int .i64) (by kernel_rfl) (by kernel_rfl) tg k n o nx
@[go_sem] theorem C3_113 (tg k n o nx) : aConvert Tryd.prog tg 3 113 (.int k n) ⟨o, nx⟩ = some (.int .u64 (IntKind.wrap .u64 n), ⟨o, nx⟩) := cv_int (td := .int .i64) (by kernel_rfl) (by kernel_rfl) tg k n o nx
@[go_sem] theorem C3_122 (tg k n o nx) : aConvert Tryd.prog tg 3 122 (.int k n) ⟨o, nx⟩ = some (.int .u32 (IntKind.wrap .u32 n), ⟨o, nx⟩) := cv_int (td := .int .i64) (by kernel_rfl) (by kernel_rfl) tg k n o nx
@[go_sem] theorem C5_2 (tg k n o nx) : aConvert Tryd.prog tg 5 2 (.int k n) ⟨o, nx⟩ = some (.int .i64 (IntKind.wrap .i64 n), ⟨o, nx⟩) := cv_int (td := .int .u8) (by kernel_rfl) (by kernel_rfl) tg k n o nx
@[go_sem] theorem C5_3 (tg k n o nx) : aConvert Tryd.prog tg 5 3 (.int k n) ⟨o, nx⟩ = some (.int .i64 (IntKind.wrap .i64 n), ⟨o, nx⟩) := cv_int (td := .int .u8) (by kernel_rfl) (by kernel_rfl) tg k n o nx
@[go_sem] theorem C5_43 (tg k n o nx) : aConvert Tryd.prog tg 5 43 (.int k n) ⟨o, nx⟩ = some (.int .i64 (IntKind.wrap .i64 n), ⟨o, nx⟩) := cv_int (td := .int .u8) (by kernel_rfl) (by kernel_rfl) tg k n o nx
@[go_sem] theorem C5_63 (tg k n o nx) : aConvert Tryd.prog tg 5 63 (.int k n) ⟨o, nx⟩ = some (.int .u64 (IntKind.wrap .u64 n), ⟨o, nx⟩) := cv_int (td := .int .u8) (by kernel_rfl) (by kernel_rfl) tg k n o nx
@[go_sem] theorem C5_113 (tg k n o nx) : aConvert Tryd.prog tg 5 113 (.int k n) ⟨o, nx⟩ = some (.int .u64 (IntKind.wrap .u64 n), ⟨o, nx⟩) := cv_int (td := .int .u8) (by kernel_rfl) (by kernel_rfl) tg k n o nx
@[go_sem] theorem C5_122 (tg k n o nx) : aConvert Tryd.prog tg 5 122 (.int k n) ⟨o, nx⟩ = some (.int .u32 (IntKind.wrap .u32 n), ⟨o, nx⟩) := cv_int (td := .int .u8) (by kernel_rfl) (by kernel_rfl) tg k n o nx
@[go_sem] theorem C43_2 (tg k n o nx) : aConvert Tryd.prog tg 43 2 (.int k n) ⟨o, nx⟩ = some (.int .i64 (IntKind.wrap .i64 n), ⟨o, nx⟩) := cv_int (td := .int .i64) (by kernel_rfl) (by kernel_rfl) tg k n o nx
@[go_sem] theorem C43_3 (tg k n o nx) : aConvert Tryd.prog tg 43 3 (.int k n) ⟨o, nx⟩ = some (.int .i64 (IntKind.wrap .i64 n), ⟨o, nx⟩) := cv_int (td := .int .i64) (by kernel_rfl) (by kernel_rfl) tg k n o nx
@[go_sem] theorem C43_5 (tg k n o nx) : aConvert Tryd.prog tg 43 5 (.int k n) ⟨o, nx⟩ = some (.int .u8 (IntKind.wrap .u8 n), ⟨o, nx⟩) := cv_int (td := .int .i64) (by kernel_rfl) (by kernel_rfl) tg k n o nx
@[go_sem] theorem C43_63 (tg k n o nx) : aConvert Tryd.prog tg 43 63 (.int k n) ⟨o, nx⟩ = some (.int .u64 (IntKind.wrap .u64 n), ⟨o, nx⟩) := cv_int (td := .int .i64) (by kernel_rfl) (by kernel_rfl) tg k n o nx
@[go_sem] theorem C43_113 (tg k n o nx) : aConvert Tryd.prog tg 43 113 (.int k n) ⟨o, nx⟩ = some (.int .u64 (IntKind.wrap .u64 n), ⟨o, nx⟩) := cv_int (td := .int .i64) (by kernel_rfl) (by kernel_rfl) tg k n o nx
@[go_sem] theorem C43_122 (tg k n o nx) : aConvert Tryd.prog tg 43 122 (.int k n) ⟨o, nx⟩ = some (.int .u32 (IntKind.wrap .u32 n), ⟨o, nx⟩) := cv_int (td := .int .i64) (by kernel_rfl) (by kernel_rfl) tg k n o nx
@[go_sem] theorem C63_2 (tg k n o nx) : aConvert Tryd.prog tg 63 2 (.int k n) ⟨o, nx⟩ = some (.int .i64 (IntKind.wrap .i64 n), ⟨o, nx⟩) := cv_int (td := .int .u64) (by kernel_rfl) (by kernel_rfl) tg k n o nx
@[go_sem] theorem C63_3 (tg k n o nx) : aConvert Tryd.prog tg 63 3 (.int k n) ⟨o, nx⟩ = some (.int .i64 (IntKind.wrap .i64 n), ⟨o, nx⟩) := cv_int (td := .int .u64) (by kernel_rfl) (by kernel_rfl) tg k n o nx
@[go_sem] theorem C63_5 (tg k n o nx) : aConvert Tryd.prog tg 63 5 (.int k n) ⟨o, nx⟩ = some (.int .u8 (IntKind.wrap .u8 n), ⟨o, nx⟩) := cv_int (td := .int .u64) (by kernel_rfl) (by kernel_rfl) tg k n o nx
@[go_sem] theorem C63_43 (tg k n o nx) : aConvert Tryd.prog tg 63 43 (.int k n) ⟨o, nx⟩ = some (.int .i64 (IntKind.wrap .i64 n), ⟨o, nx⟩) := cv_int (td := .int .u64) (by kernel_rfl) (by kernel_rfl) tg k n o nx
@[go_sem] theorem C63_113 (tg k n o nx) : aConvert Tryd.prog tg 63 113 (.int k n) ⟨o, nx⟩ = some (.int .u64 (IntKind.wrap .u64 n), ⟨o, nx⟩) := cv_int (td := .int .u64) (by kernel_rfl) (by kernel_rfl) tg k n o nx
@[go_sem] theorem C63_122 (tg k n o nx) : aConvert Tryd.prog tg 63 122 (.int k n) ⟨o, nx⟩ = some (.int .u32 (IntKind.wrap .u32 n), ⟨o, nx⟩) := cv_int (td := .int .u64) (by kernel_rfl) (by kernel_rfl) tg k n o nx
@[go_sem] theorem C113_2 (tg k n o nx) : aConvert Tryd.prog tg 113 2 (.int k n) ⟨o, nx⟩ = some (.int .i64 (IntKind.wrap .i64 n), ⟨o, nx⟩) := cv_int (td := .int .u64) (by kernel_rfl) (by kernel_rfl) tg k n o nx
@[go_sem] theorem C113_3 (tg k n o nx) : aConvert Tryd.prog tg 113 3 (.int k n) ⟨o, nx⟩ = some (.int .i64 (IntKind.wrap .i64 n), ⟨o, nx⟩) := cv_int (td := .int .u64) (by kernel_rfl) (by kernel_rfl) tg k n o nx
@[go_sem] theorem C113_5 (tg k n o nx) : aConvert Tryd.prog tg 113 5 (.int k n) ⟨o, nx⟩ = some (.int .u8 (IntKind.wrap .u8 n), ⟨o, nx⟩) := cv_int (td := .int .u64) (by kernel_rfl) (by kernel_rfl) tg k n o nx
@[go_sem] theorem C113_43 (tg k n o nx) : aConvert Tryd.prog tg 113 43 (.int k n) ⟨o, nx⟩ = some (.int .i64 (IntKind.wrap .i64 n), ⟨o, nx⟩) := cv_int (td := .int .u64) (by kernel_rfl) (by kernel_rfl) tg k n o nx
@[go_sem] theorem C113_63 (tg k n o nx) : aConvert Tryd.prog tg 113 63 (.int k n) ⟨o, nx⟩ = some (.int .u64 (IntKind.wrap .u64 n), ⟨o, nx⟩) := cv_int (td := .int .u64) (by kernel_rfl) (by kernel_rfl) tg k n o nx
@[go_sem] theorem C113_122 (tg k n o nx) : aConvert Tryd.prog tg 113 122 (.int k n) ⟨o, nx⟩ = some (.int .u32 (IntKind.wrap .u32 n), ⟨o, nx⟩) := cv_int (td := .int .u64) (by kernel_rfl) (by kernel_rfl) tg k n o nx
@[go_sem] theorem C122_2 (tg k n o nx) : aConvert Tryd.prog tg 122 2 (.int k n) ⟨o, nx⟩ = some (.int .i64 (IntKind.wrap .i64 n), ⟨o, nx⟩) := cv_int (td := .int .u32) (by kernel_rfl) (by kernel_rfl) tg k n o nx
@[go_sem] theorem C122_3 (tg k n o nx) : aConvert Tryd.prog tg 122 3 (.int k n) ⟨o, nx⟩ = some (.int .i64 (IntKind.wrap .i64 n), ⟨o, nx⟩) := cv_int (td := .int .u32) (by kernel_rfl) (by kernel_rfl) tg k n o nx
@[go_sem] theorem C122_5 (tg k n o nx) : aConvert Tryd.prog tg 122 5 (.int k n) ⟨o, nx⟩ = some (.int .u8 (IntKind.wrap .u8 n), ⟨o, nx⟩) := cv_int (td := .int .u32) (by kernel_rfl) (by kernel_rfl) tg k n o nx
@[go_sem] theorem C122_43 (tg k n o nx) : aConvert Tryd.prog tg 122 43 (.int k n) ⟨o, nx⟩ = some (.int .i64 (IntKind.wrap .i64 n), ⟨o, nx⟩) := cv_int (td := .int .u32) (by kernel_rfl) (by kernel_rfl) tg k n o nx
@[go_sem] theorem C122_63 (tg k n o nx) : aConvert Tryd.prog tg 122 63 (.int k n) ⟨o, nx⟩ = some (.int .u64 (IntKind.wrap .u64 n), ⟨o, nx⟩) := cv_int (td := .int .u32) (by kernel_rfl) (by kernel_rfl) tg k n o nx
@[go_sem] theorem C122_113 (tg k n o nx) : aConvert Tryd.prog tg 122 113 (.int k n) ⟨o, nx⟩ = some (.int .u64 (IntKind.wrap .u64 n), ⟨o, nx⟩) := cv_int (td := .int .u32) (by kernel_rfl) (by kernel_rfl) tg k n o nx
/-- How functions are called: on data, with a number or a truth value back; on data, with data back; on the caller's memory. -/
def md0 (f : FuncId) : Mode := if f ∈ [31, 24, 39, 49, 30, 28, 27, 9, 14, 10, 12, 16, 18, 13, 17, 19, 23, 29, 44, 57, 60, 61, 62, 35, 38, 48] then .ext true else if f ∈ [20, 25, 40, 50, 15, 26, 33, 45, 46, 42, 43, 54, 55, 56, 36, 37, 47, 11, 21, 22] then .ext false else if f ∈ [] then .raw true else .raw false
@[go_sem] theorem M31 : md0 31 = .ext true := rfl
@[go_sem] theorem M20 : md0 20 = .ext false := rfl
@[go_sem] theorem M24 : md0 24 = .ext true := rfl
@[go_sem] theorem M25 : md0 25 = .ext false := rfl
@[go_sem] theorem M39 : md0 39 = .ext true := rfl
@[go_sem] theorem M49 : md0 49 = .ext true := rfl
@[go_sem] theorem M40 : md0 40 = .ext false := rfl
@[go_sem] theorem M50 : md0 50 = .ext false := rfl
@[go_sem] theorem M15 : md0 15 = .ext false := rfl
@[go_sem] theorem M30 : md0 30 = .ext true := rfl
@[go_sem] theorem M26 : md0 26 = .ext false := rfl
@[go_sem] theorem M28 : md0 28 = .ext true := rfl
@[go_sem] theorem M33 : md0 33 = .ext false := rfl
@[go_sem] theorem M45 : md0 45 = .ext false := rfl
@[go_sem] theorem M46 : md0 46 = .ext false := rfl
@[go_sem] theorem M27 : md0 27 = .ext true := rfl
@[go_sem] theorem M42 : md0 42 = .ext false := rfl
@[go_sem] theorem M43 : md0 43 = .ext false := rfl
@[go_sem] theorem M54 : md0 54 = .ext false := rfl
@[go_sem] theorem M55 : md0 55 = .ext false := rfl
@[go_sem] theorem M56 : md0 56 = .ext false := rfl
@[go_sem] theorem M36 : md0 36 = .ext false := rfl
@[go_sem] theorem M37 : md0 37 = .ext false := rfl
@[go_sem] theorem M47 : md0 47 = .ext false := rfl
@[go_sem] theorem M9 : md0 9 = .ext true := rfl
@[go_sem] theorem M14 : md0 14 = .ext true := rfl
@[go_sem] theorem M10 : md0 10 = .ext true := rfl
@[go_sem] theorem M11 : md0 11 = .ext false := rfl
@[go_sem] theorem M12 : md0 12 = .ext true := rfl
@[go_sem] theorem M16 : md0 16 = .ext true := rfl
@[go_sem] theorem M18 : md0 18 = .ext true := rfl
@[go_sem] theorem M13 : md0 13 = .ext true := rfl
@[go_sem] theorem M17 : md0 17 = .ext true := rfl
@[go_sem] theorem M19 : md0 19 = .ext true := rfl
@[go_sem] theorem M23 : md0 23 = .ext true := rfl
@[go_sem] theorem M29 : md0 29 = .ext true := rfl
@[go_sem] theorem M41 : md0 41 = .raw false := rfl
@[go_sem] theorem M51 : md0 51 = .raw false := rfl
@[go_sem] theorem M52 : md0 52 = .raw false := rfl
@[go_sem] theorem M53 : md0 53 = .raw false := rfl
@[go_sem] theorem M58 : md0 58 = .raw false := rfl
@[go_sem] theorem M59 : md0 59 = .raw false := rfl
@[go_sem] theorem M21 : md0 21 = .ext false := rfl
@[go_sem] theorem M22 : md0 22 = .ext false := rfl
@[go_sem] theorem M44 : md0 44 = .ext true := rfl
@[go_sem] theorem M57 : md0 57 = .ext true := rfl
@[go_sem] theorem M60 : md0 60 = .ext true := rfl
@[go_sem] theorem M61 : md0 61 = .ext true := rfl
@[go_sem] theorem M62 : md0 62 = .ext true := rfl
@[go_sem] theorem M32 : md0 32 = .raw false := rfl
@[go_sem] theorem M34 : md0 34 = .raw false := rfl
@[go_sem] theorem M35 : md0 35 = .ext true := rfl
@[go_sem] theorem M38 : md0 38 = .ext true := rfl
@[go_sem] theorem M48 : md0 48 = .ext true := rfl
end Go.Proofs.YthhfjjnhkifbfaaDoor.A
/- within: the remainder. -/
namespace Go.Proofs.YthhfjjnhkifbfaaDoor.A
open Go
set_option maxRecDepth 20000
def RW (args : List AV) (r : AV) : Prop := ∃ a n : Int, 0 < n ∧ n ≤ 1000000 ∧ args = [.int .i64 a, .int .i64 n] ∧ r = .int .i64 (a % n)
theorem RW_fn : Fun1 RW := by
  rintro args r r' ⟨a, n, _, _, rfl, rfl⟩ ⟨a', n', _, _, h, rfl⟩
  simp only [List.cons.injEq, AV.int.injEq, true_and, and_true] at h
  rw [h.1, h.2]
theorem rw_eq {a n : Int} (h1 : 0 < n) (h2 : n ≤ 1000000) : tRel RW [.int .i64 a, .int .i64 n] = some (.int .i64 (a % n)) := tRel_eq RW_fn ⟨a, n, h1, h2, rfl, rfl⟩
theorem mod_of (a n : Int) (h : 0 < n) : a % n = if a.tmod n < 0 then a.tmod n + n else a.tmod n := by
  have hn : ¬ n = 0 := by omega
  have e1 := Int.emod_lt_of_pos a h
  have e2 := Int.emod_nonneg a hn
  rw [Int.tmod_eq_emod]
  have : (n.natAbs : Int) = n := by omega
  split
  · split <;> omega
  · rename_i hc
    simp only [not_or] at hc
    have h0 : a % n ≠ 0 := fun e => hc.2 (Int.dvd_of_emod_eq_zero e)
    split <;> omega
theorem tmod_in (a n : Int) (h : 0 < n) : -n < a.tmod n ∧ a.tmod n < n := by
  have hn : ¬ n = 0 := by omega
  rw [Int.tmod_eq_emod]
  have := Int.emod_lt_of_pos a h
  have := Int.emod_nonneg a hn
  constructor <;> split <;> omega
theorem lookW0 (X) : lookedAt (EX md0 X) (fun _ => none) 2 Tryd.f31 = true := by kernel_rfl
theorem within0_ok (args r) (h : RW args r) : Ok Tryd.prog 31 args r := by
  obtain ⟨a, n, h1, h2, rfl, rfl⟩ := h
  refine ok_of_WP (E := EX md0 (fun _ _ => none)) (cr := noR) (tab_nil _) (noR_ok _) mixed (k := 0) Tryd.func31 (lookW0 _) rfl ?_
  rw [mod_of a n h1]
  obtain ⟨h3, h4⟩ := tmod_in a n h1
  simp only [Tryd.f31, Option.getD_some]
  by_cases hc : a.tmod n < 0
  · rw [if_pos hc]
    simp (disch := omega) only [go_sem, ↓IntWalk.iteOmega, IntWalk.toNatUp, Nat.reduceEqDiff, Nat.reduceAdd, Nat.reduceMul, Nat.reduceSub, Nat.reduceLT, Nat.reduceLeDiff, Int.reduceToNat, Int.reduceLT, Int.reduceLE, Int.reduceEq, Int.reduceAdd, Int.reduceSub, Int.reduceMul, Int.toNat_natCast, reduceCtorEq, decide_true, decide_false, IntWalk.i64_in, IntWalk.u64_in, IntWalk.u8_in, hc]
  · rw [if_neg hc]
    simp (disch := omega) only [go_sem, ↓IntWalk.iteOmega, IntWalk.toNatUp, Nat.reduceEqDiff, Nat.reduceAdd, Nat.reduceMul, Nat.reduceSub, Nat.reduceLT, Nat.reduceLeDiff, Int.reduceToNat, Int.reduceLT, Int.reduceLE, Int.reduceEq, Int.reduceAdd, Int.reduceSub, Int.reduceMul, Int.toNat_natCast, reduceCtorEq, decide_true, decide_false, IntWalk.i64_in, IntWalk.u64_in, IntWalk.u8_in, hc]
theorem lookW1 (X) : lookedAt (EX md0 X) (fun _ => none) 2 Tryd.f30 = true := by kernel_rfl
theorem within1_ok (args r) (h : RW args r) : Ok Tryd.prog 30 args r := by
  obtain ⟨a, n, h1, h2, rfl, rfl⟩ := h
  refine ok_of_WP (E := EX md0 (fun _ _ => none)) (cr := noR) (tab_nil _) (noR_ok _) mixed (k := 0) Tryd.func30 (lookW1 _) rfl ?_
  rw [mod_of a n h1]
  obtain ⟨h3, h4⟩ := tmod_in a n h1
  simp only [Tryd.f30, Option.getD_some]
  by_cases hc : a.tmod n < 0
  · rw [if_pos hc]
    simp (disch := omega) only [go_sem, ↓IntWalk.iteOmega, IntWalk.toNatUp, Nat.reduceEqDiff, Nat.reduceAdd, Nat.reduceMul, Nat.reduceSub, Nat.reduceLT, Nat.reduceLeDiff, Int.reduceToNat, Int.reduceLT, Int.reduceLE, Int.reduceEq, Int.reduceAdd, Int.reduceSub, Int.reduceMul, Int.toNat_natCast, reduceCtorEq, decide_true, decide_false, IntWalk.i64_in, IntWalk.u64_in, IntWalk.u8_in, hc]
  · rw [if_neg hc]
    simp (disch := omega) only [go_sem, ↓IntWalk.iteOmega, IntWalk.toNatUp, Nat.reduceEqDiff, Nat.reduceAdd, Nat.reduceMul, Nat.reduceSub, Nat.reduceLT, Nat.reduceLeDiff, Int.reduceToNat, Int.reduceLT, Int.reduceLE, Int.reduceEq, Int.reduceAdd, Int.reduceSub, Int.reduceMul, Int.toNat_natCast, reduceCtorEq, decide_true, decide_false, IntWalk.i64_in, IntWalk.u64_in, IntWalk.u8_in, hc]
theorem lookW2 (X) : lookedAt (EX md0 X) (fun _ => none) 2 Tryd.f49 = true := by kernel_rfl
theorem within2_ok (args r) (h : RW args r) : Ok Tryd.prog 49 args r := by
  obtain ⟨a, n, h1, h2, rfl, rfl⟩ := h
  refine ok_of_WP (E := EX md0 (fun _ _ => none)) (cr := noR) (tab_nil _) (noR_ok _) mixed (k := 0) Tryd.func49 (lookW2 _) rfl ?_
  rw [mod_of a n h1]
  obtain ⟨h3, h4⟩ := tmod_in a n h1
  simp only [Tryd.f49, Option.getD_some]
  by_cases hc : a.tmod n < 0
  · rw [if_pos hc]
    simp (disch := omega) only [go_sem, ↓IntWalk.iteOmega, IntWalk.toNatUp, Nat.reduceEqDiff, Nat.reduceAdd, Nat.reduceMul, Nat.reduceSub, Nat.reduceLT, Nat.reduceLeDiff, Int.reduceToNat, Int.reduceLT, Int.reduceLE, Int.reduceEq, Int.reduceAdd, Int.reduceSub, Int.reduceMul, Int.toNat_natCast, reduceCtorEq, decide_true, decide_false, IntWalk.i64_in, IntWalk.u64_in, IntWalk.u8_in, hc]
  · rw [if_neg hc]
    simp (disch := omega) only [go_sem, ↓IntWalk.iteOmega, IntWalk.toNatUp, Nat.reduceEqDiff, Nat.reduceAdd, Nat.reduceMul, Nat.reduceSub, Nat.reduceLT, Nat.reduceLeDiff, Int.reduceToNat, Int.reduceLT, Int.reduceLE, Int.reduceEq, Int.reduceAdd, Int.reduceSub, Int.reduceMul, Int.toNat_natCast, reduceCtorEq, decide_true, decide_false, IntWalk.i64_in, IntWalk.u64_in, IntWalk.u8_in, hc]
theorem lookW3 (X) : lookedAt (EX md0 X) (fun _ => none) 2 Tryd.f14 = true := by kernel_rfl
theorem within3_ok (args r) (h : RW args r) : Ok Tryd.prog 14 args r := by
  obtain ⟨a, n, h1, h2, rfl, rfl⟩ := h
  refine ok_of_WP (E := EX md0 (fun _ _ => none)) (cr := noR) (tab_nil _) (noR_ok _) mixed (k := 0) Tryd.func14 (lookW3 _) rfl ?_
  rw [mod_of a n h1]
  obtain ⟨h3, h4⟩ := tmod_in a n h1
  simp only [Tryd.f14, Option.getD_some]
  by_cases hc : a.tmod n < 0
  · rw [if_pos hc]
    simp (disch := omega) only [go_sem, ↓IntWalk.iteOmega, IntWalk.toNatUp, Nat.reduceEqDiff, Nat.reduceAdd, Nat.reduceMul, Nat.reduceSub, Nat.reduceLT, Nat.reduceLeDiff, Int.reduceToNat, Int.reduceLT, Int.reduceLE, Int.reduceEq, Int.reduceAdd, Int.reduceSub, Int.reduceMul, Int.toNat_natCast, reduceCtorEq, decide_true, decide_false, IntWalk.i64_in, IntWalk.u64_in, IntWalk.u8_in, hc]
  · rw [if_neg hc]
    simp (disch := omega) only [go_sem, ↓IntWalk.iteOmega, IntWalk.toNatUp, Nat.reduceEqDiff, Nat.reduceAdd, Nat.reduceMul, Nat.reduceSub, Nat.reduceLT, Nat.reduceLeDiff, Int.reduceToNat, Int.reduceLT, Int.reduceLE, Int.reduceEq, Int.reduceAdd, Int.reduceSub, Int.reduceMul, Int.toNat_natCast, reduceCtorEq, decide_true, decide_false, IntWalk.i64_in, IntWalk.u64_in, IntWalk.u8_in, hc]
end Go.Proofs.YthhfjjnhkifbfaaDoor.A
