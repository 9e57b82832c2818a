/- Facts on the types' table, on how functions are called. -/
import Derived.Test.YtmcbfbpdfbcakaaDoorMLRReads1
import Derived.Test.YtmcbfbpdfbcakaaDoorMLRReads2
import Derived.Test.YtmcbfbpdfbcakaaDoorMLRReads3
import Derived.Test.YtmcbfbpdfbcakaaDoorMLRReads4
set_option linter.unusedVariables false
set_option linter.unusedSimpArgs false
set_option linter.unnecessarySimpa false
namespace Go.Proofs.YtmcbfbpdfbcakaaDoor.A
open Go
noncomputable def EX (md : FuncId → Mode) (X : FuncId → List AV → Option AV) : Env := ⟨Tryd.prog, md, X⟩
@[go_sem] theorem EX_P (md X) : (EX md X).P = Tryd.prog := rfl
@[go_sem] theorem EX_m (md X g) : (EX md X).mode g = md g := rfl
@[go_sem] theorem EX_x (md X g as_) : (EX md X).ext g as_ = X g as_ := rfl
@[go_sem] theorem T2s : tSize Tryd.prog 2 = some 1 := by kernel_rfl
@[go_sem] theorem T2a : tAgg Tryd.prog 2 = some false := by kernel_rfl
@[go_sem] theorem T2z : tZero Tryd.prog 2 = some [AV.int .i64 0] := by kernel_rfl
@[go_sem] theorem T2u : Tryd.prog.underlying 2 = some (.int .i64) := by kernel_rfl
@[go_sem] theorem T3s : tSize Tryd.prog 3 = some 1 := by kernel_rfl
@[go_sem] theorem T3a : tAgg Tryd.prog 3 = some false := by kernel_rfl
@[go_sem] theorem T3z : tZero Tryd.prog 3 = some [AV.int .i64 0] := by kernel_rfl
@[go_sem] theorem T3u : Tryd.prog.underlying 3 = some (.int .i64) := by kernel_rfl
@[go_sem] theorem T4s : tSize Tryd.prog 4 = some 1 := by kernel_rfl
@[go_sem] theorem T4a : tAgg Tryd.prog 4 = some false := by kernel_rfl
@[go_sem] theorem T4z : tZero Tryd.prog 4 = some [AV.bool false] := by kernel_rfl
@[go_sem] theorem T4eq (x y) : aBin Tryd.prog .eql 4 (.bool x) (.bool y) = some (.bool (x == y)) := aBin_beq (by kernel_rfl) x y
@[go_sem] theorem T4ne (x y) : aBin Tryd.prog .neq 4 (.bool x) (.bool y) = some (.bool (!(x == y))) := aBin_bne (by kernel_rfl) x y
@[go_sem] theorem T5s : tSize Tryd.prog 5 = some 1 := by kernel_rfl
@[go_sem] theorem T5a : tAgg Tryd.prog 5 = some false := by kernel_rfl
@[go_sem] theorem T5z : tZero Tryd.prog 5 = some [AV.int .u8 0] := by kernel_rfl
@[go_sem] theorem T5u : Tryd.prog.underlying 5 = some (.int .u8) := by kernel_rfl
@[go_sem] theorem T6s : tSize Tryd.prog 6 = some 1 := by kernel_rfl
@[go_sem] theorem T6a : tAgg Tryd.prog 6 = some false := by kernel_rfl
@[go_sem] theorem T6z : tZero Tryd.prog 6 = some [AV.int .u8 0] := by kernel_rfl
@[go_sem] theorem T6u : Tryd.prog.underlying 6 = some (.int .u8) := by kernel_rfl
@[go_sem] theorem T7s : tSize Tryd.prog 7 = some 4 := by kernel_rfl
@[go_sem] theorem T7a : tAgg Tryd.prog 7 = some true := by kernel_rfl
@[go_sem] theorem T7z : tZero Tryd.prog 7 = some [AV.int .i64 0, AV.int .i64 0, AV.bool false, AV.int .u8 0] := by kernel_rfl
@[go_sem] theorem T7f0p (k g off) : fieldAddrA Tryd.prog 7 0 (.ptr k g off) = some (.ptr k g (off + 0)) := fa_ptr (s := 0) (ft := 2) (by kernel_rfl) (by kernel_rfl) k g off
@[go_sem] theorem T7f0q (cs) : fieldAddrA Tryd.prog 7 0 (.fptr cs) = some (.fptr (cs.drop 0)) := fa_fptr (s := 0) (ft := 2) (by kernel_rfl) (by kernel_rfl) cs
@[go_sem] theorem T7f0v (cs) : fieldA Tryd.prog 7 0 (.agg cs) = takeT Tryd.prog 2 (cs.drop 0) := fi_agg (by kernel_rfl) cs
@[go_sem] theorem T7f1p (k g off) : fieldAddrA Tryd.prog 7 1 (.ptr k g off) = some (.ptr k g (off + 1)) := fa_ptr (s := 0) (ft := 3) (by kernel_rfl) (by kernel_rfl) k g off
@[go_sem] theorem T7f1q (cs) : fieldAddrA Tryd.prog 7 1 (.fptr cs) = some (.fptr (cs.drop 1)) := fa_fptr (s := 0) (ft := 3) (by kernel_rfl) (by kernel_rfl) cs
@[go_sem] theorem T7f1v (cs) : fieldA Tryd.prog 7 1 (.agg cs) = takeT Tryd.prog 3 (cs.drop 1) := fi_agg (by kernel_rfl) cs
@[go_sem] theorem T7f2p (k g off) : fieldAddrA Tryd.prog 7 2 (.ptr k g off) = some (.ptr k g (off + 2)) := fa_ptr (s := 0) (ft := 4) (by kernel_rfl) (by kernel_rfl) k g off
@[go_sem] theorem T7f2q (cs) : fieldAddrA Tryd.prog 7 2 (.fptr cs) = some (.fptr (cs.drop 2)) := fa_fptr (s := 0) (ft := 4) (by kernel_rfl) (by kernel_rfl) cs
@[go_sem] theorem T7f2v (cs) : fieldA Tryd.prog 7 2 (.agg cs) = takeT Tryd.prog 4 (cs.drop 2) := fi_agg (by kernel_rfl) cs
@[go_sem] theorem T7f3p (k g off) : fieldAddrA Tryd.prog 7 3 (.ptr k g off) = some (.ptr k g (off + 3)) := fa_ptr (s := 0) (ft := 6) (by kernel_rfl) (by kernel_rfl) k g off
@[go_sem] theorem T7f3q (cs) : fieldAddrA Tryd.prog 7 3 (.fptr cs) = some (.fptr (cs.drop 3)) := fa_fptr (s := 0) (ft := 6) (by kernel_rfl) (by kernel_rfl) cs
@[go_sem] theorem T7f3v (cs) : fieldA Tryd.prog 7 3 (.agg cs) = takeT Tryd.prog 6 (cs.drop 3) := fi_agg (by kernel_rfl) cs
@[go_sem] theorem T7bd (xs) : aBuild Tryd.prog 7 xs = (fillA (fun i => ([(0, 1), (1, 1), (2, 1), (3, 1)] : List (Nat × Nat))[i]?) [AV.int .i64 0, AV.int .i64 0, AV.bool false, AV.int .u8 0] xs).map .agg := by kernel_rfl
@[go_sem] theorem T7lf : eqLeaves Tryd.prog 7 = some [Leaf.int, Leaf.int, Leaf.bool, Leaf.int] := by kernel_rfl
@[go_sem] theorem T8s : tSize Tryd.prog 8 = some 4 := by kernel_rfl
@[go_sem] theorem T8a : tAgg Tryd.prog 8 = some true := by kernel_rfl
@[go_sem] theorem T8z : tZero Tryd.prog 8 = some [AV.int .i64 0, AV.int .i64 0, AV.bool false, AV.int .u8 0] := by kernel_rfl
@[go_sem] theorem T8f0p (k g off) : fieldAddrA Tryd.prog 8 0 (.ptr k g off) = some (.ptr k g (off + 0)) := fa_ptr (s := 0) (ft := 2) (by kernel_rfl) (by kernel_rfl) k g off
@[go_sem] theorem T8f0q (cs) : fieldAddrA Tryd.prog 8 0 (.fptr cs) = some (.fptr (cs.drop 0)) := fa_fptr (s := 0) (ft := 2) (by kernel_rfl) (by kernel_rfl) cs
@[go_sem] theorem T8f0v (cs) : fieldA Tryd.prog 8 0 (.agg cs) = takeT Tryd.prog 2 (cs.drop 0) := fi_agg (by kernel_rfl) cs
@[go_sem] theorem T8f1p (k g off) : fieldAddrA Tryd.prog 8 1 (.ptr k g off) = some (.ptr k g (off + 1)) := fa_ptr (s := 0) (ft := 3) (by kernel_rfl) (by kernel_rfl) k g off
@[go_sem] theorem T8f1q (cs) : fieldAddrA Tryd.prog 8 1 (.fptr cs) = some (.fptr (cs.drop 1)) := fa_fptr (s := 0) (ft := 3) (by kernel_rfl) (by kernel_rfl) cs
@[go_sem] theorem T8f1v (cs) : fieldA Tryd.prog 8 1 (.agg cs) = takeT Tryd.prog 3 (cs.drop 1) := fi_agg (by kernel_rfl) cs
@[go_sem] theorem T8f2p (k g off) : fieldAddrA Tryd.prog 8 2 (.ptr k g off) = some (.ptr k g (off + 2)) := fa_ptr (s := 0) (ft := 4) (by kernel_rfl) (by kernel_rfl) k g off
@[go_sem] theorem T8f2q (cs) : fieldAddrA Tryd.prog 8 2 (.fptr cs) = some (.fptr (cs.drop 2)) := fa_fptr (s := 0) (ft := 4) (by kernel_rfl) (by kernel_rfl) cs
@[go_sem] theorem T8f2v (cs) : fieldA Tryd.prog 8 2 (.agg cs) = takeT Tryd.prog 4 (cs.drop 2) := fi_agg (by kernel_rfl) cs
@[go_sem] theorem T8f3p (k g off) : fieldAddrA Tryd.prog 8 3 (.ptr k g off) = some (.ptr k g (off + 3)) := fa_ptr (s := 0) (ft := 6) (by kernel_rfl) (by kernel_rfl) k g off
@[go_sem] theorem T8f3q (cs) : fieldAddrA Tryd.prog 8 3 (.fptr cs) = some (.fptr (cs.drop 3)) := fa_fptr (s := 0) (ft := 6) (by kernel_rfl) (by kernel_rfl) cs
@[go_sem] theorem T8f3v (cs) : fieldA Tryd.prog 8 3 (.agg cs) = takeT Tryd.prog 6 (cs.drop 3) := fi_agg (by kernel_rfl) cs
@[go_sem] theorem T8bd (xs) : aBuild Tryd.prog 8 xs = (fillA (fun i => ([(0, 1), (1, 1), (2, 1), (3, 1)] : List (Nat × Nat))[i]?) [AV.int .i64 0, AV.int .i64 0, AV.bool false, AV.int .u8 0] xs).map .agg := by kernel_rfl
@[go_sem] theorem T8lf : eqLeaves Tryd.prog 8 = some [Leaf.int, Leaf.int, Leaf.bool, Leaf.int] := by kernel_rfl
@[go_sem] theorem T9s : tSize Tryd.prog 9 = some 1 := by kernel_rfl
@[go_sem] theorem T9a : tAgg Tryd.prog 9 = some false := by kernel_rfl
@[go_sem] theorem T9z : tZero Tryd.prog 9 = some [AV.str []] := by kernel_rfl
@[go_sem] theorem T9ix (x i) : aIndex Tryd.prog 9 (.str x) i = if 0 ≤ i then (x[i.toNat]?).map fun b => .int .u8 b.toNat else none := ixv_str (by kernel_rfl) x i
@[go_sem] theorem T9sl (x lo hi) : aSlice Tryd.prog 9 (.str x) lo hi = if 0 ≤ lo.getD 0 ∧ lo.getD 0 ≤ hi.getD x.length ∧ hi.getD x.length ≤ x.length then some (.str ((x.take (hi.getD x.length).toNat).drop (lo.getD 0).toNat)) else none := sl_str (by kernel_rfl) x lo hi
@[go_sem] theorem T9ln (o x) : aLen Tryd.prog o 9 (.str x) = some (.int .i64 x.length) := ln_str (by kernel_rfl) o x
@[go_sem] theorem T9u : Tryd.prog.underlying 9 = some .string := by kernel_rfl
@[go_sem] theorem T10s : tSize Tryd.prog 10 = some 1 := by kernel_rfl
@[go_sem] theorem T10a : tAgg Tryd.prog 10 = some false := by kernel_rfl
@[go_sem] theorem T10z : tZero Tryd.prog 10 = some [AV.str []] := by kernel_rfl
@[go_sem] theorem T10ix (x i) : aIndex Tryd.prog 10 (.str x) i = if 0 ≤ i then (x[i.toNat]?).map fun b => .int .u8 b.toNat else none := ixv_str (by kernel_rfl) x i
@[go_sem] theorem T10sl (x lo hi) : aSlice Tryd.prog 10 (.str x) lo hi = if 0 ≤ lo.getD 0 ∧ lo.getD 0 ≤ hi.getD x.length ∧ hi.getD x.length ≤ x.length then some (.str ((x.take (hi.getD x.length).toNat).drop (lo.getD 0).toNat)) else none := sl_str (by kernel_rfl) x lo hi
@[go_sem] theorem T10ln (o x) : aLen Tryd.prog o 10 (.str x) = some (.int .i64 x.length) := ln_str (by kernel_rfl) o x
@[go_sem] theorem T10u : Tryd.prog.underlying 10 = some .string := by kernel_rfl
@[go_sem] theorem T11s : tSize Tryd.prog 11 = some 1 := by kernel_rfl
@[go_sem] theorem T11a : tAgg Tryd.prog 11 = some false := by kernel_rfl
@[go_sem] theorem T11z : tZero Tryd.prog 11 = some [AV.str []] := by kernel_rfl
@[go_sem] theorem T11ix (x i) : aIndex Tryd.prog 11 (.str x) i = if 0 ≤ i then (x[i.toNat]?).map fun b => .int .u8 b.toNat else none := ixv_str (by kernel_rfl) x i
@[go_sem] theorem T11sl (x lo hi) : aSlice Tryd.prog 11 (.str x) lo hi = if 0 ≤ lo.getD 0 ∧ lo.getD 0 ≤ hi.getD x.length ∧ hi.getD x.length ≤ x.length then some (.str ((x.take (hi.getD x.length).toNat).drop (lo.getD 0).toNat)) else none := sl_str (by kernel_rfl) x lo hi
@[go_sem] theorem T11ln (o x) : aLen Tryd.prog o 11 (.str x) = some (.int .i64 x.length) := ln_str (by kernel_rfl) o x
@[go_sem] theorem T11u : Tryd.prog.underlying 11 = some .string := by kernel_rfl
@[go_sem] theorem T12s : tSize Tryd.prog 12 = some 1 := by kernel_rfl
@[go_sem] theorem T12a : tAgg Tryd.prog 12 = some false := by kernel_rfl
@[go_sem] theorem T12z : tZero Tryd.prog 12 = some [AV.int .u64 0] := by kernel_rfl
@[go_sem] theorem T12u : Tryd.prog.underlying 12 = some (.int .u64) := by kernel_rfl
@[go_sem] theorem T13s : tSize Tryd.prog 13 = some 2 := by kernel_rfl
@[go_sem] theorem T13a : tAgg Tryd.prog 13 = some true := by kernel_rfl
@[go_sem] theorem T13z : tZero Tryd.prog 13 = some [AV.str [], AV.int .u64 0] := by kernel_rfl
@[go_sem] theorem T13f0p (k g off) : fieldAddrA Tryd.prog 13 0 (.ptr k g off) = some (.ptr k g (off + 0)) := fa_ptr (s := 0) (ft := 9) (by kernel_rfl) (by kernel_rfl) k g off
@[go_sem] theorem T13f0q (cs) : fieldAddrA Tryd.prog 13 0 (.fptr cs) = some (.fptr (cs.drop 0)) := fa_fptr (s := 0) (ft := 9) (by kernel_rfl) (by kernel_rfl) cs
@[go_sem] theorem T13f0v (cs) : fieldA Tryd.prog 13 0 (.agg cs) = takeT Tryd.prog 9 (cs.drop 0) := fi_agg (by kernel_rfl) cs
@[go_sem] theorem T13f1p (k g off) : fieldAddrA Tryd.prog 13 1 (.ptr k g off) = some (.ptr k g (off + 1)) := fa_ptr (s := 0) (ft := 12) (by kernel_rfl) (by kernel_rfl) k g off
@[go_sem] theorem T13f1q (cs) : fieldAddrA Tryd.prog 13 1 (.fptr cs) = some (.fptr (cs.drop 1)) := fa_fptr (s := 0) (ft := 12) (by kernel_rfl) (by kernel_rfl) cs
@[go_sem] theorem T13f1v (cs) : fieldA Tryd.prog 13 1 (.agg cs) = takeT Tryd.prog 12 (cs.drop 1) := fi_agg (by kernel_rfl) cs
@[go_sem] theorem T13bd (xs) : aBuild Tryd.prog 13 xs = (fillA (fun i => ([(0, 1), (1, 1)] : List (Nat × Nat))[i]?) [AV.str [], AV.int .u64 0] xs).map .agg := by kernel_rfl
@[go_sem] theorem T14s : tSize Tryd.prog 14 = some 2 := by kernel_rfl
@[go_sem] theorem T14a : tAgg Tryd.prog 14 = some true := by kernel_rfl
@[go_sem] theorem T14z : tZero Tryd.prog 14 = some [AV.str [], AV.int .u64 0] := by kernel_rfl
@[go_sem] theorem T14f0p (k g off) : fieldAddrA Tryd.prog 14 0 (.ptr k g off) = some (.ptr k g (off + 0)) := fa_ptr (s := 0) (ft := 9) (by kernel_rfl) (by kernel_rfl) k g off
@[go_sem] theorem T14f0q (cs) : fieldAddrA Tryd.prog 14 0 (.fptr cs) = some (.fptr (cs.drop 0)) := fa_fptr (s := 0) (ft := 9) (by kernel_rfl) (by kernel_rfl) cs
@[go_sem] theorem T14f0v (cs) : fieldA Tryd.prog 14 0 (.agg cs) = takeT Tryd.prog 9 (cs.drop 0) := fi_agg (by kernel_rfl) cs
@[go_sem] theorem T14f1p (k g off) : fieldAddrA Tryd.prog 14 1 (.ptr k g off) = some (.ptr k g (off + 1)) := fa_ptr (s := 0) (ft := 12) (by kernel_rfl) (by kernel_rfl) k g off
@[go_sem] theorem T14f1q (cs) : fieldAddrA Tryd.prog 14 1 (.fptr cs) = some (.fptr (cs.drop 1)) := fa_fptr (s := 0) (ft := 12) (by kernel_rfl) (by kernel_rfl) cs
@[go_sem] theorem T14f1v (cs) : fieldA Tryd.prog 14 1 (.agg cs) = takeT Tryd.prog 12 (cs.drop 1) := fi_agg (by kernel_rfl) cs
@[go_sem] theorem T14bd (xs) : aBuild Tryd.prog 14 xs = (fillA (fun i => ([(0, 1), (1, 1)] : List (Nat × Nat))[i]?) [AV.str [], AV.int .u64 0] xs).map .agg := by kernel_rfl
@[go_sem] theorem T15s : tSize Tryd.prog 15 = some 1 := by kernel_rfl
@[go_sem] theorem T15a : tAgg Tryd.prog 15 = some false := by kernel_rfl
@[go_sem] theorem T15z : tZero Tryd.prog 15 = some [AV.nilp] := by kernel_rfl
@[go_sem] theorem T16s : tSize Tryd.prog 16 = some 1 := by kernel_rfl
@[go_sem] theorem T16a : tAgg Tryd.prog 16 = some false := by kernel_rfl
@[go_sem] theorem T16z : tZero Tryd.prog 16 = some [AV.nilp] := by kernel_rfl
@[go_sem] theorem T17s : tSize Tryd.prog 17 = some 1 := by kernel_rfl
@[go_sem] theorem T17a : tAgg Tryd.prog 17 = some false := by kernel_rfl
@[go_sem] theorem T17z : tZero Tryd.prog 17 = some [AV.nilp] := by kernel_rfl
@[go_sem] theorem T18s : tSize Tryd.prog 18 = some 1 := by kernel_rfl
@[go_sem] theorem T18a : tAgg Tryd.prog 18 = some true := by kernel_rfl
@[go_sem] theorem T18z : tZero Tryd.prog 18 = some [AV.nilp] := by kernel_rfl
@[go_sem] theorem T18f0p (k g off) : fieldAddrA Tryd.prog 18 0 (.ptr k g off) = some (.ptr k g (off + 0)) := fa_ptr (s := 0) (ft := 17) (by kernel_rfl) (by kernel_rfl) k g off
@[go_sem] theorem T18f0q (cs) : fieldAddrA Tryd.prog 18 0 (.fptr cs) = some (.fptr (cs.drop 0)) := fa_fptr (s := 0) (ft := 17) (by kernel_rfl) (by kernel_rfl) cs
@[go_sem] theorem T18f0v (cs) : fieldA Tryd.prog 18 0 (.agg cs) = takeT Tryd.prog 17 (cs.drop 0) := fi_agg (by kernel_rfl) cs
@[go_sem] theorem T18bd (xs) : aBuild Tryd.prog 18 xs = (fillA (fun i => ([(0, 1)] : List (Nat × Nat))[i]?) [AV.nilp] xs).map .agg := by kernel_rfl
@[go_sem] theorem T19s : tSize Tryd.prog 19 = some 1 := by kernel_rfl
@[go_sem] theorem T19a : tAgg Tryd.prog 19 = some true := by kernel_rfl
@[go_sem] theorem T19z : tZero Tryd.prog 19 = some [AV.nilp] := by kernel_rfl
@[go_sem] theorem T19f0p (k g off) : fieldAddrA Tryd.prog 19 0 (.ptr k g off) = some (.ptr k g (off + 0)) := fa_ptr (s := 0) (ft := 17) (by kernel_rfl) (by kernel_rfl) k g off
@[go_sem] theorem T19f0q (cs) : fieldAddrA Tryd.prog 19 0 (.fptr cs) = some (.fptr (cs.drop 0)) := fa_fptr (s := 0) (ft := 17) (by kernel_rfl) (by kernel_rfl) cs
@[go_sem] theorem T19f0v (cs) : fieldA Tryd.prog 19 0 (.agg cs) = takeT Tryd.prog 17 (cs.drop 0) := fi_agg (by kernel_rfl) cs
@[go_sem] theorem T19bd (xs) : aBuild Tryd.prog 19 xs = (fillA (fun i => ([(0, 1)] : List (Nat × Nat))[i]?) [AV.nilp] xs).map .agg := by kernel_rfl
@[go_sem] theorem T21s : tSize Tryd.prog 21 = some 1 := by kernel_rfl
@[go_sem] theorem T21a : tAgg Tryd.prog 21 = some false := by kernel_rfl
@[go_sem] theorem T21z : tZero Tryd.prog 21 = some [AV.int .i32 0] := by kernel_rfl
@[go_sem] theorem T21u : Tryd.prog.underlying 21 = some (.int .i32) := by kernel_rfl
@[go_sem] theorem T22s : tSize Tryd.prog 22 = some 1 := by kernel_rfl
@[go_sem] theorem T22a : tAgg Tryd.prog 22 = some false := by kernel_rfl
@[go_sem] theorem T22z : tZero Tryd.prog 22 = some [AV.nil] := by kernel_rfl
@[go_sem] theorem T22ln0 (o) : aLen Tryd.prog o 22 .nil = some (.int .i64 0) := ln_nil (e := 56) (by kernel_rfl) o
@[go_sem] theorem T22ln1 (o n cs) : aLen Tryd.prog o 22 (.sl n cs) = some (.int .i64 n) := ln_sl (e := 56) (by kernel_rfl) o n cs
@[go_sem] theorem T22ln2 (o k g off n) : aLen Tryd.prog o 22 (.ref k g off n) = some (.int .i64 n) := ln_ref (e := 56) (by kernel_rfl) o k g off n
@[go_sem] theorem T22ix1 (n cs i) : aIndexAddr Tryd.prog 22 (.sl n cs) i = if 0 ≤ i ∧ i < (n : Int) then some (.fptr (cs.drop (i.toNat * 3))) else none := ixs_sl (s := 3) (by kernel_rfl) n cs i
@[go_sem] theorem T22ix2 (k g off n i) : aIndexAddr Tryd.prog 22 (.ref k g off n) i = if 0 ≤ i ∧ i < (n : Int) then some (.ptr k g (off + i.toNat * 3)) else none := ixs_ref (s := 3) (by kernel_rfl) k g off n i
@[go_sem] theorem T22sl1 (n cs lo hi) : aSlice Tryd.prog 22 (.sl n cs) lo hi = if 0 ≤ lo.getD 0 ∧ lo.getD 0 ≤ hi.getD n ∧ hi.getD n ≤ n then some (.sl ((hi.getD n).toNat - (lo.getD 0).toNat) ((cs.take ((hi.getD n).toNat * 3)).drop ((lo.getD 0).toNat * 3))) else none := sl_sl (s := 3) (by kernel_rfl) n cs lo hi
@[go_sem] theorem T22sl2 (k g off n lo hi) : aSlice Tryd.prog 22 (.ref k g off n) lo hi = if 0 ≤ lo.getD 0 ∧ lo.getD 0 ≤ hi.getD n ∧ hi.getD n ≤ n then some (.ref k g (off + (lo.getD 0).toNat * 3) ((hi.getD n).toNat - (lo.getD 0).toNat)) else none := sl_ref (s := 2) (by kernel_rfl) k g off n lo hi
@[go_sem] theorem T22cp (k g off n x o nx) : aCopy Tryd.prog 22 (.ref k g off n) x ⟨o, nx⟩ = (srcOf o x).bind fun q => (rowIf (o k) g).bind (copyR k off n 3 q.1 q.2 o nx) := cp_ref (by kernel_rfl) k g off n x o nx
@[go_sem] theorem T22ms (tg l c o nx) : aMakeSlice Tryd.prog tg 22 l c ⟨o, nx⟩ = if 0 ≤ l ∧ l ≤ c ∧ c * 40 ≤ maxB ∧ c ≤ maxB then some (.ref tg tg 0 l.toNat, ⟨upd o tg (.row ⟨56, 3, tg, false, true, rep [AV.int .i64 0, AV.int .i64 0, AV.nil] l.toNat⟩), nx⟩) else none := ms_eq (e := 56) (s := 2) (b := 40) (z := [AV.int .i64 0, AV.int .i64 0, AV.nil]) (by kernel_rfl) (by kernel_rfl) (by kernel_rfl) (by kernel_rfl) rfl tg l c o nx
@[go_sem] theorem T22bs (tg n ps o nx) : aBuildSlice Tryd.prog tg 22 n ps ⟨o, nx⟩ = if n * 3 ≤ 16777216 then (fillA (fun i => some (i * 3, 3)) (rep [AV.int .i64 0, AV.int .i64 0, AV.nil] n) ps).map (fun cs => (.ref tg tg 0 n, ⟨upd o tg (.row ⟨56, 3, tg, false, true, cs⟩), nx⟩)) else none := bs_eq (e := 56) (s := 2) (z := [AV.int .i64 0, AV.int .i64 0, AV.nil]) (by kernel_rfl) (by kernel_rfl) (by kernel_rfl) rfl tg n ps o nx
@[go_sem] theorem T22ap (tg x y o nx) : aAppend Tryd.prog tg 22 22 x y ⟨o, nx⟩ = (srcOf o y).bind fun q => appW tg 56 3 40 x q.1 q.2 o nx := ap_eq (e := 56) (s := 2) (b := 39) (z := [AV.int .i64 0, AV.int .i64 0, AV.nil]) (by kernel_rfl) (by kernel_rfl) (by kernel_rfl) (by kernel_rfl) rfl (by kernel_rfl) tg x y o nx
@[go_sem] theorem T23s : tSize Tryd.prog 23 = some 1 := by kernel_rfl
@[go_sem] theorem T23a : tAgg Tryd.prog 23 = some false := by kernel_rfl
@[go_sem] theorem T23z : tZero Tryd.prog 23 = some [AV.nil] := by kernel_rfl
@[go_sem] theorem T23ln0 (o) : aLen Tryd.prog o 23 .nil = some (.int .i64 0) := ln_nil (e := 3) (by kernel_rfl) o
@[go_sem] theorem T23ln1 (o n cs) : aLen Tryd.prog o 23 (.sl n cs) = some (.int .i64 n) := ln_sl (e := 3) (by kernel_rfl) o n cs
@[go_sem] theorem T23ln2 (o k g off n) : aLen Tryd.prog o 23 (.ref k g off n) = some (.int .i64 n) := ln_ref (e := 3) (by kernel_rfl) o k g off n
@[go_sem] theorem T23ix1 (n cs i) : aIndexAddr Tryd.prog 23 (.sl n cs) i = if 0 ≤ i ∧ i < (n : Int) then some (.fptr (cs.drop (i.toNat * 1))) else none := ixs_sl (s := 1) (by kernel_rfl) n cs i
@[go_sem] theorem T23ix2 (k g off n i) : aIndexAddr Tryd.prog 23 (.ref k g off n) i = if 0 ≤ i ∧ i < (n : Int) then some (.ptr k g (off + i.toNat * 1)) else none := ixs_ref (s := 1) (by kernel_rfl) k g off n i
@[go_sem] theorem T23sl1 (n cs lo hi) : aSlice Tryd.prog 23 (.sl n cs) lo hi = if 0 ≤ lo.getD 0 ∧ lo.getD 0 ≤ hi.getD n ∧ hi.getD n ≤ n then some (.sl ((hi.getD n).toNat - (lo.getD 0).toNat) ((cs.take ((hi.getD n).toNat * 1)).drop ((lo.getD 0).toNat * 1))) else none := sl_sl (s := 1) (by kernel_rfl) n cs lo hi
@[go_sem] theorem T23sl2 (k g off n lo hi) : aSlice Tryd.prog 23 (.ref k g off n) lo hi = if 0 ≤ lo.getD 0 ∧ lo.getD 0 ≤ hi.getD n ∧ hi.getD n ≤ n then some (.ref k g (off + (lo.getD 0).toNat * 1) ((hi.getD n).toNat - (lo.getD 0).toNat)) else none := sl_ref (s := 0) (by kernel_rfl) k g off n lo hi
@[go_sem] theorem T23cp (k g off n x o nx) : aCopy Tryd.prog 23 (.ref k g off n) x ⟨o, nx⟩ = (srcOf o x).bind fun q => (rowIf (o k) g).bind (copyR k off n 1 q.1 q.2 o nx) := cp_ref (by kernel_rfl) k g off n x o nx
@[go_sem] theorem T23ms (tg l c o nx) : aMakeSlice Tryd.prog tg 23 l c ⟨o, nx⟩ = if 0 ≤ l ∧ l ≤ c ∧ c * 8 ≤ maxB ∧ c ≤ maxB then some (.ref tg tg 0 l.toNat, ⟨upd o tg (.row ⟨3, 1, tg, false, true, rep [AV.int .i64 0] l.toNat⟩), nx⟩) else none := ms_eq (e := 3) (s := 0) (b := 8) (z := [AV.int .i64 0]) (by kernel_rfl) (by kernel_rfl) (by kernel_rfl) (by kernel_rfl) rfl tg l c o nx
@[go_sem] theorem T23bs (tg n ps o nx) : aBuildSlice Tryd.prog tg 23 n ps ⟨o, nx⟩ = if n * 1 ≤ 16777216 then (fillA (fun i => some (i * 1, 1)) (rep [AV.int .i64 0] n) ps).map (fun cs => (.ref tg tg 0 n, ⟨upd o tg (.row ⟨3, 1, tg, false, true, cs⟩), nx⟩)) else none := bs_eq (e := 3) (s := 0) (z := [AV.int .i64 0]) (by kernel_rfl) (by kernel_rfl) (by kernel_rfl) rfl tg n ps o nx
@[go_sem] theorem T23ap (tg x y o nx) : aAppend Tryd.prog tg 23 23 x y ⟨o, nx⟩ = (srcOf o y).bind fun q => appW tg 3 1 8 x q.1 q.2 o nx := ap_eq (e := 3) (s := 0) (b := 7) (z := [AV.int .i64 0]) (by kernel_rfl) (by kernel_rfl) (by kernel_rfl) (by kernel_rfl) rfl (by kernel_rfl) tg x y o nx
@[go_sem] theorem T27s : tSize Tryd.prog 27 = some 1 := by kernel_rfl
@[go_sem] theorem T27a : tAgg Tryd.prog 27 = some false := by kernel_rfl
@[go_sem] theorem T27z : tZero Tryd.prog 27 = some [AV.nil] := by kernel_rfl
@[go_sem] theorem T27ln0 (o) : aLen Tryd.prog o 27 .nil = some (.int .i64 0) := ln_nil (e := 29) (by kernel_rfl) o
@[go_sem] theorem T27ln1 (o n cs) : aLen Tryd.prog o 27 (.sl n cs) = some (.int .i64 n) := ln_sl (e := 29) (by kernel_rfl) o n cs
@[go_sem] theorem T27ln2 (o k g off n) : aLen Tryd.prog o 27 (.ref k g off n) = some (.int .i64 n) := ln_ref (e := 29) (by kernel_rfl) o k g off n
@[go_sem] theorem T27ix1 (n cs i) : aIndexAddr Tryd.prog 27 (.sl n cs) i = if 0 ≤ i ∧ i < (n : Int) then some (.fptr (cs.drop (i.toNat * 5))) else none := ixs_sl (s := 5) (by kernel_rfl) n cs i
@[go_sem] theorem T27ix2 (k g off n i) : aIndexAddr Tryd.prog 27 (.ref k g off n) i = if 0 ≤ i ∧ i < (n : Int) then some (.ptr k g (off + i.toNat * 5)) else none := ixs_ref (s := 5) (by kernel_rfl) k g off n i
@[go_sem] theorem T27sl1 (n cs lo hi) : aSlice Tryd.prog 27 (.sl n cs) lo hi = if 0 ≤ lo.getD 0 ∧ lo.getD 0 ≤ hi.getD n ∧ hi.getD n ≤ n then some (.sl ((hi.getD n).toNat - (lo.getD 0).toNat) ((cs.take ((hi.getD n).toNat * 5)).drop ((lo.getD 0).toNat * 5))) else none := sl_sl (s := 5) (by kernel_rfl) n cs lo hi
@[go_sem] theorem T27sl2 (k g off n lo hi) : aSlice Tryd.prog 27 (.ref k g off n) lo hi = if 0 ≤ lo.getD 0 ∧ lo.getD 0 ≤ hi.getD n ∧ hi.getD n ≤ n then some (.ref k g (off + (lo.getD 0).toNat * 5) ((hi.getD n).toNat - (lo.getD 0).toNat)) else none := sl_ref (s := 4) (by kernel_rfl) k g off n lo hi
@[go_sem] theorem T27cp (k g off n x o nx) : aCopy Tryd.prog 27 (.ref k g off n) x ⟨o, nx⟩ = (srcOf o x).bind fun q => (rowIf (o k) g).bind (copyR k off n 5 q.1 q.2 o nx) := cp_ref (by kernel_rfl) k g off n x o nx
@[go_sem] theorem T27ms (tg l c o nx) : aMakeSlice Tryd.prog tg 27 l c ⟨o, nx⟩ = if 0 ≤ l ∧ l ≤ c ∧ c * 56 ≤ maxB ∧ c ≤ maxB then some (.ref tg tg 0 l.toNat, ⟨upd o tg (.row ⟨29, 5, tg, false, true, rep [AV.int .i64 0, AV.int .i64 0, AV.int .i64 0, AV.int .i64 0, AV.nil] l.toNat⟩), nx⟩) else none := ms_eq (e := 29) (s := 4) (b := 56) (z := [AV.int .i64 0, AV.int .i64 0, AV.int .i64 0, AV.int .i64 0, AV.nil]) (by kernel_rfl) (by kernel_rfl) (by kernel_rfl) (by kernel_rfl) rfl tg l c o nx
@[go_sem] theorem T27bs (tg n ps o nx) : aBuildSlice Tryd.prog tg 27 n ps ⟨o, nx⟩ = if n * 5 ≤ 16777216 then (fillA (fun i => some (i * 5, 5)) (rep [AV.int .i64 0, AV.int .i64 0, AV.int .i64 0, AV.int .i64 0, AV.nil] n) ps).map (fun cs => (.ref tg tg 0 n, ⟨upd o tg (.row ⟨29, 5, tg, false, true, cs⟩), nx⟩)) else none := bs_eq (e := 29) (s := 4) (z := [AV.int .i64 0, AV.int .i64 0, AV.int .i64 0, AV.int .i64 0, AV.nil]) (by kernel_rfl) (by kernel_rfl) (by kernel_rfl) rfl tg n ps o nx
@[go_sem] theorem T27ap (tg x y o nx) : aAppend Tryd.prog tg 27 27 x y ⟨o, nx⟩ = (srcOf o y).bind fun q => appW tg 29 5 56 x q.1 q.2 o nx := ap_eq (e := 29) (s := 4) (b := 55) (z := [AV.int .i64 0, AV.int .i64 0, AV.int .i64 0, AV.int .i64 0, AV.nil]) (by kernel_rfl) (by kernel_rfl) (by kernel_rfl) (by kernel_rfl) rfl (by kernel_rfl) tg x y o nx
@[go_sem] theorem T28s : tSize Tryd.prog 28 = some 5 := by kernel_rfl
@[go_sem] theorem T28a : tAgg Tryd.prog 28 = some true := by kernel_rfl
@[go_sem] theorem T28z : tZero Tryd.prog 28 = some [AV.int .i64 0, AV.int .i64 0, AV.int .i64 0, AV.int .i64 0, AV.nil] := by kernel_rfl
@[go_sem] theorem T28f0p (k g off) : fieldAddrA Tryd.prog 28 0 (.ptr k g off) = some (.ptr k g (off + 0)) := fa_ptr (s := 0) (ft := 3) (by kernel_rfl) (by kernel_rfl) k g off
@[go_sem] theorem T28f0q (cs) : fieldAddrA Tryd.prog 28 0 (.fptr cs) = some (.fptr (cs.drop 0)) := fa_fptr (s := 0) (ft := 3) (by kernel_rfl) (by kernel_rfl) cs
@[go_sem] theorem T28f0v (cs) : fieldA Tryd.prog 28 0 (.agg cs) = takeT Tryd.prog 3 (cs.drop 0) := fi_agg (by kernel_rfl) cs
@[go_sem] theorem T28f1p (k g off) : fieldAddrA Tryd.prog 28 1 (.ptr k g off) = some (.ptr k g (off + 1)) := fa_ptr (s := 0) (ft := 3) (by kernel_rfl) (by kernel_rfl) k g off
@[go_sem] theorem T28f1q (cs) : fieldAddrA Tryd.prog 28 1 (.fptr cs) = some (.fptr (cs.drop 1)) := fa_fptr (s := 0) (ft := 3) (by kernel_rfl) (by kernel_rfl) cs
@[go_sem] theorem T28f1v (cs) : fieldA Tryd.prog 28 1 (.agg cs) = takeT Tryd.prog 3 (cs.drop 1) := fi_agg (by kernel_rfl) cs
@[go_sem] theorem T28f2p (k g off) : fieldAddrA Tryd.prog 28 2 (.ptr k g off) = some (.ptr k g (off + 2)) := fa_ptr (s := 0) (ft := 3) (by kernel_rfl) (by kernel_rfl) k g off
@[go_sem] theorem T28f2q (cs) : fieldAddrA Tryd.prog 28 2 (.fptr cs) = some (.fptr (cs.drop 2)) := fa_fptr (s := 0) (ft := 3) (by kernel_rfl) (by kernel_rfl) cs
@[go_sem] theorem T28f2v (cs) : fieldA Tryd.prog 28 2 (.agg cs) = takeT Tryd.prog 3 (cs.drop 2) := fi_agg (by kernel_rfl) cs
@[go_sem] theorem T28f3p (k g off) : fieldAddrA Tryd.prog 28 3 (.ptr k g off) = some (.ptr k g (off + 3)) := fa_ptr (s := 0) (ft := 3) (by kernel_rfl) (by kernel_rfl) k g off
@[go_sem] theorem T28f3q (cs) : fieldAddrA Tryd.prog 28 3 (.fptr cs) = some (.fptr (cs.drop 3)) := fa_fptr (s := 0) (ft := 3) (by kernel_rfl) (by kernel_rfl) cs
@[go_sem] theorem T28f3v (cs) : fieldA Tryd.prog 28 3 (.agg cs) = takeT Tryd.prog 3 (cs.drop 3) := fi_agg (by kernel_rfl) cs
@[go_sem] theorem T28f4p (k g off) : fieldAddrA Tryd.prog 28 4 (.ptr k g off) = some (.ptr k g (off + 4)) := fa_ptr (s := 0) (ft := 27) (by kernel_rfl) (by kernel_rfl) k g off
@[go_sem] theorem T28f4q (cs) : fieldAddrA Tryd.prog 28 4 (.fptr cs) = some (.fptr (cs.drop 4)) := fa_fptr (s := 0) (ft := 27) (by kernel_rfl) (by kernel_rfl) cs
@[go_sem] theorem T28f4v (cs) : fieldA Tryd.prog 28 4 (.agg cs) = takeT Tryd.prog 27 (cs.drop 4) := fi_agg (by kernel_rfl) cs
@[go_sem] theorem T28bd (xs) : aBuild Tryd.prog 28 xs = (fillA (fun i => ([(0, 1), (1, 1), (2, 1), (3, 1), (4, 1)] : List (Nat × Nat))[i]?) [AV.int .i64 0, AV.int .i64 0, AV.int .i64 0, AV.int .i64 0, AV.nil] xs).map .agg := by kernel_rfl
@[go_sem] theorem T29s : tSize Tryd.prog 29 = some 5 := by kernel_rfl
@[go_sem] theorem T29a : tAgg Tryd.prog 29 = some true := by kernel_rfl
@[go_sem] theorem T29z : tZero Tryd.prog 29 = some [AV.int .i64 0, AV.int .i64 0, AV.int .i64 0, AV.int .i64 0, AV.nil] := by kernel_rfl
@[go_sem] theorem T29f0p (k g off) : fieldAddrA Tryd.prog 29 0 (.ptr k g off) = some (.ptr k g (off + 0)) := fa_ptr (s := 0) (ft := 3) (by kernel_rfl) (by kernel_rfl) k g off
@[go_sem] theorem T29f0q (cs) : fieldAddrA Tryd.prog 29 0 (.fptr cs) = some (.fptr (cs.drop 0)) := fa_fptr (s := 0) (ft := 3) (by kernel_rfl) (by kernel_rfl) cs
@[go_sem] theorem T29f0v (cs) : fieldA Tryd.prog 29 0 (.agg cs) = takeT Tryd.prog 3 (cs.drop 0) := fi_agg (by kernel_rfl) cs
@[go_sem] theorem T29f1p (k g off) : fieldAddrA Tryd.prog 29 1 (.ptr k g off) = some (.ptr k g (off + 1)) := fa_ptr (s := 0) (ft := 3) (by kernel_rfl) (by kernel_rfl) k g off
@[go_sem] theorem T29f1q (cs) : fieldAddrA Tryd.prog 29 1 (.fptr cs) = some (.fptr (cs.drop 1)) := fa_fptr (s := 0) (ft := 3) (by kernel_rfl) (by kernel_rfl) cs
@[go_sem] theorem T29f1v (cs) : fieldA Tryd.prog 29 1 (.agg cs) = takeT Tryd.prog 3 (cs.drop 1) := fi_agg (by kernel_rfl) cs
@[go_sem] theorem T29f2p (k g off) : fieldAddrA Tryd.prog 29 2 (.ptr k g off) = some (.ptr k g (off + 2)) := fa_ptr (s := 0) (ft := 3) (by kernel_rfl) (by kernel_rfl) k g off
@[go_sem] theorem T29f2q (cs) : fieldAddrA Tryd.prog 29 2 (.fptr cs) = some (.fptr (cs.drop 2)) := fa_fptr (s := 0) (ft := 3) (by kernel_rfl) (by kernel_rfl) cs
@[go_sem] theorem T29f2v (cs) : fieldA Tryd.prog 29 2 (.agg cs) = takeT Tryd.prog 3 (cs.drop 2) := fi_agg (by kernel_rfl) cs
@[go_sem] theorem T29f3p (k g off) : fieldAddrA Tryd.prog 29 3 (.ptr k g off) = some (.ptr k g (off + 3)) := fa_ptr (s := 0) (ft := 3) (by kernel_rfl) (by kernel_rfl) k g off
@[go_sem] theorem T29f3q (cs) : fieldAddrA Tryd.prog 29 3 (.fptr cs) = some (.fptr (cs.drop 3)) := fa_fptr (s := 0) (ft := 3) (by kernel_rfl) (by kernel_rfl) cs
@[go_sem] theorem T29f3v (cs) : fieldA Tryd.prog 29 3 (.agg cs) = takeT Tryd.prog 3 (cs.drop 3) := fi_agg (by kernel_rfl) cs
@[go_sem] theorem T29f4p (k g off) : fieldAddrA Tryd.prog 29 4 (.ptr k g off) = some (.ptr k g (off + 4)) := fa_ptr (s := 0) (ft := 27) (by kernel_rfl) (by kernel_rfl) k g off
@[go_sem] theorem T29f4q (cs) : fieldAddrA Tryd.prog 29 4 (.fptr cs) = some (.fptr (cs.drop 4)) := fa_fptr (s := 0) (ft := 27) (by kernel_rfl) (by kernel_rfl) cs
@[go_sem] theorem T29f4v (cs) : fieldA Tryd.prog 29 4 (.agg cs) = takeT Tryd.prog 27 (cs.drop 4) := fi_agg (by kernel_rfl) cs
@[go_sem] theorem T29bd (xs) : aBuild Tryd.prog 29 xs = (fillA (fun i => ([(0, 1), (1, 1), (2, 1), (3, 1), (4, 1)] : List (Nat × Nat))[i]?) [AV.int .i64 0, AV.int .i64 0, AV.int .i64 0, AV.int .i64 0, AV.nil] xs).map .agg := by kernel_rfl
@[go_sem] theorem T31s : tSize Tryd.prog 31 = some 1 := by kernel_rfl
@[go_sem] theorem T31a : tAgg Tryd.prog 31 = some false := by kernel_rfl
@[go_sem] theorem T31z : tZero Tryd.prog 31 = some [AV.nil] := by kernel_rfl
@[go_sem] theorem T31ln0 (o) : aLen Tryd.prog o 31 .nil = some (.int .i64 0) := ln_nil (e := 5) (by kernel_rfl) o
@[go_sem] theorem T31ln1 (o n cs) : aLen Tryd.prog o 31 (.sl n cs) = some (.int .i64 n) := ln_sl (e := 5) (by kernel_rfl) o n cs
@[go_sem] theorem T31ln2 (o k g off n) : aLen Tryd.prog o 31 (.ref k g off n) = some (.int .i64 n) := ln_ref (e := 5) (by kernel_rfl) o k g off n
@[go_sem] theorem T31ix1 (n cs i) : aIndexAddr Tryd.prog 31 (.sl n cs) i = if 0 ≤ i ∧ i < (n : Int) then some (.fptr (cs.drop (i.toNat * 1))) else none := ixs_sl (s := 1) (by kernel_rfl) n cs i
@[go_sem] theorem T31ix2 (k g off n i) : aIndexAddr Tryd.prog 31 (.ref k g off n) i = if 0 ≤ i ∧ i < (n : Int) then some (.ptr k g (off + i.toNat * 1)) else none := ixs_ref (s := 1) (by kernel_rfl) k g off n i
@[go_sem] theorem T31sl1 (n cs lo hi) : aSlice Tryd.prog 31 (.sl n cs) lo hi = if 0 ≤ lo.getD 0 ∧ lo.getD 0 ≤ hi.getD n ∧ hi.getD n ≤ n then some (.sl ((hi.getD n).toNat - (lo.getD 0).toNat) ((cs.take ((hi.getD n).toNat * 1)).drop ((lo.getD 0).toNat * 1))) else none := sl_sl (s := 1) (by kernel_rfl) n cs lo hi
@[go_sem] theorem T31sl2 (k g off n lo hi) : aSlice Tryd.prog 31 (.ref k g off n) lo hi = if 0 ≤ lo.getD 0 ∧ lo.getD 0 ≤ hi.getD n ∧ hi.getD n ≤ n then some (.ref k g (off + (lo.getD 0).toNat * 1) ((hi.getD n).toNat - (lo.getD 0).toNat)) else none := sl_ref (s := 0) (by kernel_rfl) k g off n lo hi
@[go_sem] theorem T31cp (k g off n x o nx) : aCopy Tryd.prog 31 (.ref k g off n) x ⟨o, nx⟩ = (srcOf o x).bind fun q => (rowIf (o k) g).bind (copyR k off n 1 q.1 q.2 o nx) := cp_ref (by kernel_rfl) k g off n x o nx
@[go_sem] theorem T31ms (tg l c o nx) : aMakeSlice Tryd.prog tg 31 l c ⟨o, nx⟩ = if 0 ≤ l ∧ l ≤ c ∧ c * 1 ≤ maxB ∧ c ≤ maxB then some (.ref tg tg 0 l.toNat, ⟨upd o tg (.row ⟨5, 1, tg, false, true, rep [AV.int .u8 0] l.toNat⟩), nx⟩) else none := ms_eq (e := 5) (s := 0) (b := 1) (z := [AV.int .u8 0]) (by kernel_rfl) (by kernel_rfl) (by kernel_rfl) (by kernel_rfl) rfl tg l c o nx
@[go_sem] theorem T31bs (tg n ps o nx) : aBuildSlice Tryd.prog tg 31 n ps ⟨o, nx⟩ = if n * 1 ≤ 16777216 then (fillA (fun i => some (i * 1, 1)) (rep [AV.int .u8 0] n) ps).map (fun cs => (.ref tg tg 0 n, ⟨upd o tg (.row ⟨5, 1, tg, false, true, cs⟩), nx⟩)) else none := bs_eq (e := 5) (s := 0) (z := [AV.int .u8 0]) (by kernel_rfl) (by kernel_rfl) (by kernel_rfl) rfl tg n ps o nx
@[go_sem] theorem T31ap (tg x y o nx) : aAppend Tryd.prog tg 31 31 x y ⟨o, nx⟩ = (srcOf o y).bind fun q => appW tg 5 1 1 x q.1 q.2 o nx := ap_eq (e := 5) (s := 0) (b := 0) (z := [AV.int .u8 0]) (by kernel_rfl) (by kernel_rfl) (by kernel_rfl) (by kernel_rfl) rfl (by kernel_rfl) tg x y o nx
@[go_sem] theorem T33s : tSize Tryd.prog 33 = some 1 := by kernel_rfl
@[go_sem] theorem T33a : tAgg Tryd.prog 33 = some false := by kernel_rfl
@[go_sem] theorem T33z : tZero Tryd.prog 33 = some [AV.nil] := by kernel_rfl
@[go_sem] theorem T33ln0 (o) : aLen Tryd.prog o 33 .nil = some (.int .i64 0) := ln_nil (e := 9) (by kernel_rfl) o
@[go_sem] theorem T33ln1 (o n cs) : aLen Tryd.prog o 33 (.sl n cs) = some (.int .i64 n) := ln_sl (e := 9) (by kernel_rfl) o n cs
@[go_sem] theorem T33ln2 (o k g off n) : aLen Tryd.prog o 33 (.ref k g off n) = some (.int .i64 n) := ln_ref (e := 9) (by kernel_rfl) o k g off n
@[go_sem] theorem T33ix1 (n cs i) : aIndexAddr Tryd.prog 33 (.sl n cs) i = if 0 ≤ i ∧ i < (n : Int) then some (.fptr (cs.drop (i.toNat * 1))) else none := ixs_sl (s := 1) (by kernel_rfl) n cs i
@[go_sem] theorem T33ix2 (k g off n i) : aIndexAddr Tryd.prog 33 (.ref k g off n) i = if 0 ≤ i ∧ i < (n : Int) then some (.ptr k g (off + i.toNat * 1)) else none := ixs_ref (s := 1) (by kernel_rfl) k g off n i
@[go_sem] theorem T33sl1 (n cs lo hi) : aSlice Tryd.prog 33 (.sl n cs) lo hi = if 0 ≤ lo.getD 0 ∧ lo.getD 0 ≤ hi.getD n ∧ hi.getD n ≤ n then some (.sl ((hi.getD n).toNat - (lo.getD 0).toNat) ((cs.take ((hi.getD n).toNat * 1)).drop ((lo.getD 0).toNat * 1))) else none := sl_sl (s := 1) (by kernel_rfl) n cs lo hi
@[go_sem] theorem T33sl2 (k g off n lo hi) : aSlice Tryd.prog 33 (.ref k g off n) lo hi = if 0 ≤ lo.getD 0 ∧ lo.getD 0 ≤ hi.getD n ∧ hi.getD n ≤ n then some (.ref k g (off + (lo.getD 0).toNat * 1) ((hi.getD n).toNat - (lo.getD 0).toNat)) else none := sl_ref (s := 0) (by kernel_rfl) k g off n lo hi
@[go_sem] theorem T33cp (k g off n x o nx) : aCopy Tryd.prog 33 (.ref k g off n) x ⟨o, nx⟩ = (srcOf o x).bind fun q => (rowIf (o k) g).bind (copyR k off n 1 q.1 q.2 o nx) := cp_ref (by kernel_rfl) k g off n x o nx
@[go_sem] theorem T33ms (tg l c o nx) : aMakeSlice Tryd.prog tg 33 l c ⟨o, nx⟩ = if 0 ≤ l ∧ l ≤ c ∧ c * 16 ≤ maxB ∧ c ≤ maxB then some (.ref tg tg 0 l.toNat, ⟨upd o tg (.row ⟨9, 1, tg, false, true, rep [AV.str []] l.toNat⟩), nx⟩) else none := ms_eq (e := 9) (s := 0) (b := 16) (z := [AV.str []]) (by kernel_rfl) (by kernel_rfl) (by kernel_rfl) (by kernel_rfl) rfl tg l c o nx
@[go_sem] theorem T33bs (tg n ps o nx) : aBuildSlice Tryd.prog tg 33 n ps ⟨o, nx⟩ = if n * 1 ≤ 16777216 then (fillA (fun i => some (i * 1, 1)) (rep [AV.str []] n) ps).map (fun cs => (.ref tg tg 0 n, ⟨upd o tg (.row ⟨9, 1, tg, false, true, cs⟩), nx⟩)) else none := bs_eq (e := 9) (s := 0) (z := [AV.str []]) (by kernel_rfl) (by kernel_rfl) (by kernel_rfl) rfl tg n ps o nx
@[go_sem] theorem T33ap (tg x y o nx) : aAppend Tryd.prog tg 33 33 x y ⟨o, nx⟩ = (srcOf o y).bind fun q => appW tg 9 1 16 x q.1 q.2 o nx := ap_eq (e := 9) (s := 0) (b := 15) (z := [AV.str []]) (by kernel_rfl) (by kernel_rfl) (by kernel_rfl) (by kernel_rfl) rfl (by kernel_rfl) tg x y o nx
@[go_sem] theorem T34s : tSize Tryd.prog 34 = some 1 := by kernel_rfl
@[go_sem] theorem T34a : tAgg Tryd.prog 34 = some false := by kernel_rfl
@[go_sem] theorem T34z : tZero Tryd.prog 34 = some [AV.int .i64 0] := by kernel_rfl
@[go_sem] theorem T34u : Tryd.prog.underlying 34 = some (.int .i64) := by kernel_rfl
@[go_sem] theorem T50s : tSize Tryd.prog 50 = some 1 := by kernel_rfl
@[go_sem] theorem T50a : tAgg Tryd.prog 50 = some false := by kernel_rfl
@[go_sem] theorem T50z : tZero Tryd.prog 50 = some [AV.int .u64 0] := by kernel_rfl
@[go_sem] theorem T50u : Tryd.prog.underlying 50 = some (.int .u64) := by kernel_rfl
@[go_sem] theorem T55s : tSize Tryd.prog 55 = some 3 := by kernel_rfl
@[go_sem] theorem T55a : tAgg Tryd.prog 55 = some true := by kernel_rfl
@[go_sem] theorem T55z : tZero Tryd.prog 55 = some [AV.int .i64 0, AV.int .i64 0, AV.nil] := by kernel_rfl
@[go_sem] theorem T55f0p (k g off) : fieldAddrA Tryd.prog 55 0 (.ptr k g off) = some (.ptr k g (off + 0)) := fa_ptr (s := 0) (ft := 3) (by kernel_rfl) (by kernel_rfl) k g off
@[go_sem] theorem T55f0q (cs) : fieldAddrA Tryd.prog 55 0 (.fptr cs) = some (.fptr (cs.drop 0)) := fa_fptr (s := 0) (ft := 3) (by kernel_rfl) (by kernel_rfl) cs
@[go_sem] theorem T55f0v (cs) : fieldA Tryd.prog 55 0 (.agg cs) = takeT Tryd.prog 3 (cs.drop 0) := fi_agg (by kernel_rfl) cs
@[go_sem] theorem T55f1p (k g off) : fieldAddrA Tryd.prog 55 1 (.ptr k g off) = some (.ptr k g (off + 1)) := fa_ptr (s := 0) (ft := 3) (by kernel_rfl) (by kernel_rfl) k g off
@[go_sem] theorem T55f1q (cs) : fieldAddrA Tryd.prog 55 1 (.fptr cs) = some (.fptr (cs.drop 1)) := fa_fptr (s := 0) (ft := 3) (by kernel_rfl) (by kernel_rfl) cs
@[go_sem] theorem T55f1v (cs) : fieldA Tryd.prog 55 1 (.agg cs) = takeT Tryd.prog 3 (cs.drop 1) := fi_agg (by kernel_rfl) cs
@[go_sem] theorem T55f2p (k g off) : fieldAddrA Tryd.prog 55 2 (.ptr k g off) = some (.ptr k g (off + 2)) := fa_ptr (s := 0) (ft := 22) (by kernel_rfl) (by kernel_rfl) k g off
@[go_sem] theorem T55f2q (cs) : fieldAddrA Tryd.prog 55 2 (.fptr cs) = some (.fptr (cs.drop 2)) := fa_fptr (s := 0) (ft := 22) (by kernel_rfl) (by kernel_rfl) cs
@[go_sem] theorem T55f2v (cs) : fieldA Tryd.prog 55 2 (.agg cs) = takeT Tryd.prog 22 (cs.drop 2) := fi_agg (by kernel_rfl) cs
@[go_sem] theorem T55bd (xs) : aBuild Tryd.prog 55 xs = (fillA (fun i => ([(0, 1), (1, 1), (2, 1)] : List (Nat × Nat))[i]?) [AV.int .i64 0, AV.int .i64 0, AV.nil] xs).map .agg := by kernel_rfl
@[go_sem] theorem T56s : tSize Tryd.prog 56 = some 3 := by kernel_rfl
@[go_sem] theorem T56a : tAgg Tryd.prog 56 = some true := by kernel_rfl
@[go_sem] theorem T56z : tZero Tryd.prog 56 = some [AV.int .i64 0, AV.int .i64 0, AV.nil] := by kernel_rfl
@[go_sem] theorem T56f0p (k g off) : fieldAddrA Tryd.prog 56 0 (.ptr k g off) = some (.ptr k g (off + 0)) := fa_ptr (s := 0) (ft := 3) (by kernel_rfl) (by kernel_rfl) k g off
@[go_sem] theorem T56f0q (cs) : fieldAddrA Tryd.prog 56 0 (.fptr cs) = some (.fptr (cs.drop 0)) := fa_fptr (s := 0) (ft := 3) (by kernel_rfl) (by kernel_rfl) cs
@[go_sem] theorem T56f0v (cs) : fieldA Tryd.prog 56 0 (.agg cs) = takeT Tryd.prog 3 (cs.drop 0) := fi_agg (by kernel_rfl) cs
@[go_sem] theorem T56f1p (k g off) : fieldAddrA Tryd.prog 56 1 (.ptr k g off) = some (.ptr k g (off + 1)) := fa_ptr (s := 0) (ft := 3) (by kernel_rfl) (by kernel_rfl) k g off
@[go_sem] theorem T56f1q (cs) : fieldAddrA Tryd.prog 56 1 (.fptr cs) = some (.fptr (cs.drop 1)) := fa_fptr (s := 0) (ft := 3) (by kernel_rfl) (by kernel_rfl) cs
@[go_sem] theorem T56f1v (cs) : fieldA Tryd.prog 56 1 (.agg cs) = takeT Tryd.prog 3 (cs.drop 1) := fi_agg (by kernel_rfl) cs
@[go_sem] theorem T56f2p (k g off) : fieldAddrA Tryd.prog 56 2 (.ptr k g off) = some (.ptr k g (off + 2)) := fa_ptr (s := 0) (ft := 22) (by kernel_rfl) (by kernel_rfl) k g off
@[go_sem] theorem T56f2q (cs) : fieldAddrA Tryd.prog 56 2 (.fptr cs) = some (.fptr (cs.drop 2)) := fa_fptr (s := 0) (ft := 22) (by kernel_rfl) (by kernel_rfl) cs
@[go_sem] theorem T56f2v (cs) : fieldA Tryd.prog 56 2 (.agg cs) = takeT Tryd.prog 22 (cs.drop 2) := fi_agg (by kernel_rfl) cs
@[go_sem] theorem T56bd (xs) : aBuild Tryd.prog 56 xs = (fillA (fun i => ([(0, 1), (1, 1), (2, 1)] : List (Nat × Nat))[i]?) [AV.int .i64 0, AV.int .i64 0, AV.nil] xs).map .agg := by kernel_rfl
@[go_sem] theorem T58s : tSize Tryd.prog 58 = some 1 := by kernel_rfl
@[go_sem] theorem T58a : tAgg Tryd.prog 58 = some false := by kernel_rfl
@[go_sem] theorem T58z : tZero Tryd.prog 58 = some [AV.nilp] := by kernel_rfl
@[go_sem] theorem T59s : tSize Tryd.prog 59 = some 2 := by kernel_rfl
@[go_sem] theorem T59a : tAgg Tryd.prog 59 = some true := by kernel_rfl
@[go_sem] theorem T59z : tZero Tryd.prog 59 = some [AV.nil, AV.nil] := by kernel_rfl
@[go_sem] theorem T59f0p (k g off) : fieldAddrA Tryd.prog 59 0 (.ptr k g off) = some (.ptr k g (off + 0)) := fa_ptr (s := 0) (ft := 27) (by kernel_rfl) (by kernel_rfl) k g off
@[go_sem] theorem T59f0q (cs) : fieldAddrA Tryd.prog 59 0 (.fptr cs) = some (.fptr (cs.drop 0)) := fa_fptr (s := 0) (ft := 27) (by kernel_rfl) (by kernel_rfl) cs
@[go_sem] theorem T59f0v (cs) : fieldA Tryd.prog 59 0 (.agg cs) = takeT Tryd.prog 27 (cs.drop 0) := fi_agg (by kernel_rfl) cs
@[go_sem] theorem T59f1p (k g off) : fieldAddrA Tryd.prog 59 1 (.ptr k g off) = some (.ptr k g (off + 1)) := fa_ptr (s := 0) (ft := 27) (by kernel_rfl) (by kernel_rfl) k g off
@[go_sem] theorem T59f1q (cs) : fieldAddrA Tryd.prog 59 1 (.fptr cs) = some (.fptr (cs.drop 1)) := fa_fptr (s := 0) (ft := 27) (by kernel_rfl) (by kernel_rfl) cs
@[go_sem] theorem T59f1v (cs) : fieldA Tryd.prog 59 1 (.agg cs) = takeT Tryd.prog 27 (cs.drop 1) := fi_agg (by kernel_rfl) cs
@[go_sem] theorem T59bd (xs) : aBuild Tryd.prog 59 xs = (fillA (fun i => ([(0, 1), (1, 1)] : List (Nat × Nat))[i]?) [AV.nil, AV.nil] xs).map .agg := by kernel_rfl
@[go_sem] theorem T60s : tSize Tryd.prog 60 = some 2 := by kernel_rfl
@[go_sem] theorem T60a : tAgg Tryd.prog 60 = some true := by kernel_rfl
@[go_sem] theorem T60z : tZero Tryd.prog 60 = some [AV.nil, AV.nil] := by kernel_rfl
@[go_sem] theorem T60f0p (k g off) : fieldAddrA Tryd.prog 60 0 (.ptr k g off) = some (.ptr k g (off + 0)) := fa_ptr (s := 0) (ft := 27) (by kernel_rfl) (by kernel_rfl) k g off
@[go_sem] theorem T60f0q (cs) : fieldAddrA Tryd.prog 60 0 (.fptr cs) = some (.fptr (cs.drop 0)) := fa_fptr (s := 0) (ft := 27) (by kernel_rfl) (by kernel_rfl) cs
@[go_sem] theorem T60f0v (cs) : fieldA Tryd.prog 60 0 (.agg cs) = takeT Tryd.prog 27 (cs.drop 0) := fi_agg (by kernel_rfl) cs
@[go_sem] theorem T60f1p (k g off) : fieldAddrA Tryd.prog 60 1 (.ptr k g off) = some (.ptr k g (off + 1)) := fa_ptr (s := 0) (ft := 27) (by kernel_rfl) (by kernel_rfl) k g off
@[go_sem] theorem T60f1q (cs) : fieldAddrA Tryd.prog 60 1 (.fptr cs) = some (.fptr (cs.drop 1)) := fa_fptr (s := 0) (ft := 27) (by kernel_rfl) (by kernel_rfl) cs
@[go_sem] theorem T60f1v (cs) : fieldA Tryd.prog 60 1 (.agg cs) = takeT Tryd.prog 27 (cs.drop 1) := fi_agg (by kernel_rfl) cs
@[go_sem] theorem T60bd (xs) : aBuild Tryd.prog 60 xs = (fillA (fun i => ([(0, 1), (1, 1)] : List (Nat × Nat))[i]?) [AV.nil, AV.nil] xs).map .agg := by kernel_rfl
@[go_sem] theorem T61s : tSize Tryd.prog 61 = some 1 := by kernel_rfl
@[go_sem] theorem T61a : tAgg Tryd.prog 61 = some false := by kernel_rfl
@[go_sem] theorem T61z : tZero Tryd.prog 61 = some [AV.nil] := by kernel_rfl
@[go_sem] theorem T61ln0 (o) : aLen Tryd.prog o 61 .nil = some (.int .i64 0) := ln_nil (e := 60) (by kernel_rfl) o
@[go_sem] theorem T61ln1 (o n cs) : aLen Tryd.prog o 61 (.sl n cs) = some (.int .i64 n) := ln_sl (e := 60) (by kernel_rfl) o n cs
@[go_sem] theorem T61ln2 (o k g off n) : aLen Tryd.prog o 61 (.ref k g off n) = some (.int .i64 n) := ln_ref (e := 60) (by kernel_rfl) o k g off n
@[go_sem] theorem T61ix1 (n cs i) : aIndexAddr Tryd.prog 61 (.sl n cs) i = if 0 ≤ i ∧ i < (n : Int) then some (.fptr (cs.drop (i.toNat * 2))) else none := ixs_sl (s := 2) (by kernel_rfl) n cs i
@[go_sem] theorem T61ix2 (k g off n i) : aIndexAddr Tryd.prog 61 (.ref k g off n) i = if 0 ≤ i ∧ i < (n : Int) then some (.ptr k g (off + i.toNat * 2)) else none := ixs_ref (s := 2) (by kernel_rfl) k g off n i
@[go_sem] theorem T61sl1 (n cs lo hi) : aSlice Tryd.prog 61 (.sl n cs) lo hi = if 0 ≤ lo.getD 0 ∧ lo.getD 0 ≤ hi.getD n ∧ hi.getD n ≤ n then some (.sl ((hi.getD n).toNat - (lo.getD 0).toNat) ((cs.take ((hi.getD n).toNat * 2)).drop ((lo.getD 0).toNat * 2))) else none := sl_sl (s := 2) (by kernel_rfl) n cs lo hi
@[go_sem] theorem T61sl2 (k g off n lo hi) : aSlice Tryd.prog 61 (.ref k g off n) lo hi = if 0 ≤ lo.getD 0 ∧ lo.getD 0 ≤ hi.getD n ∧ hi.getD n ≤ n then some (.ref k g (off + (lo.getD 0).toNat * 2) ((hi.getD n).toNat - (lo.getD 0).toNat)) else none := sl_ref (s := 1) (by kernel_rfl) k g off n lo hi
@[go_sem] theorem T61cp (k g off n x o nx) : aCopy Tryd.prog 61 (.ref k g off n) x ⟨o, nx⟩ = (srcOf o x).bind fun q => (rowIf (o k) g).bind (copyR k off n 2 q.1 q.2 o nx) := cp_ref (by kernel_rfl) k g off n x o nx
@[go_sem] theorem T61ms (tg l c o nx) : aMakeSlice Tryd.prog tg 61 l c ⟨o, nx⟩ = if 0 ≤ l ∧ l ≤ c ∧ c * 48 ≤ maxB ∧ c ≤ maxB then some (.ref tg tg 0 l.toNat, ⟨upd o tg (.row ⟨60, 2, tg, false, true, rep [AV.nil, AV.nil] l.toNat⟩), nx⟩) else none := ms_eq (e := 60) (s := 1) (b := 48) (z := [AV.nil, AV.nil]) (by kernel_rfl) (by kernel_rfl) (by kernel_rfl) (by kernel_rfl) rfl tg l c o nx
@[go_sem] theorem T61bs (tg n ps o nx) : aBuildSlice Tryd.prog tg 61 n ps ⟨o, nx⟩ = if n * 2 ≤ 16777216 then (fillA (fun i => some (i * 2, 2)) (rep [AV.nil, AV.nil] n) ps).map (fun cs => (.ref tg tg 0 n, ⟨upd o tg (.row ⟨60, 2, tg, false, true, cs⟩), nx⟩)) else none := bs_eq (e := 60) (s := 1) (z := [AV.nil, AV.nil]) (by kernel_rfl) (by kernel_rfl) (by kernel_rfl) rfl tg n ps o nx
@[go_sem] theorem T61ap (tg x y o nx) : aAppend Tryd.prog tg 61 61 x y ⟨o, nx⟩ = (srcOf o y).bind fun q => appW tg 60 2 48 x q.1 q.2 o nx := ap_eq (e := 60) (s := 1) (b := 47) (z := [AV.nil, AV.nil]) (by kernel_rfl) (by kernel_rfl) (by kernel_rfl) (by kernel_rfl) rfl (by kernel_rfl) tg x y o nx
@[go_sem] theorem T62s : tSize Tryd.prog 62 = some 3 := by kernel_rfl
@[go_sem] theorem T62a : tAgg Tryd.prog 62 = some true := by kernel_rfl
@[go_sem] theorem T62z : tZero Tryd.prog 62 = some [AV.str [], AV.int .i64 0, AV.nil] := by kernel_rfl
@[go_sem] theorem T62f0p (k g off) : fieldAddrA Tryd.prog 62 0 (.ptr k g off) = some (.ptr k g (off + 0)) := fa_ptr (s := 0) (ft := 9) (by kernel_rfl) (by kernel_rfl) k g off
@[go_sem] theorem T62f0q (cs) : fieldAddrA Tryd.prog 62 0 (.fptr cs) = some (.fptr (cs.drop 0)) := fa_fptr (s := 0) (ft := 9) (by kernel_rfl) (by kernel_rfl) cs
@[go_sem] theorem T62f0v (cs) : fieldA Tryd.prog 62 0 (.agg cs) = takeT Tryd.prog 9 (cs.drop 0) := fi_agg (by kernel_rfl) cs
@[go_sem] theorem T62f1p (k g off) : fieldAddrA Tryd.prog 62 1 (.ptr k g off) = some (.ptr k g (off + 1)) := fa_ptr (s := 0) (ft := 3) (by kernel_rfl) (by kernel_rfl) k g off
@[go_sem] theorem T62f1q (cs) : fieldAddrA Tryd.prog 62 1 (.fptr cs) = some (.fptr (cs.drop 1)) := fa_fptr (s := 0) (ft := 3) (by kernel_rfl) (by kernel_rfl) cs
@[go_sem] theorem T62f1v (cs) : fieldA Tryd.prog 62 1 (.agg cs) = takeT Tryd.prog 3 (cs.drop 1) := fi_agg (by kernel_rfl) cs
@[go_sem] theorem T62f2p (k g off) : fieldAddrA Tryd.prog 62 2 (.ptr k g off) = some (.ptr k g (off + 2)) := fa_ptr (s := 0) (ft := 61) (by kernel_rfl) (by kernel_rfl) k g off
@[go_sem] theorem T62f2q (cs) : fieldAddrA Tryd.prog 62 2 (.fptr cs) = some (.fptr (cs.drop 2)) := fa_fptr (s := 0) (ft := 61) (by kernel_rfl) (by kernel_rfl) cs
@[go_sem] theorem T62f2v (cs) : fieldA Tryd.prog 62 2 (.agg cs) = takeT Tryd.prog 61 (cs.drop 2) := fi_agg (by kernel_rfl) cs
@[go_sem] theorem T62bd (xs) : aBuild Tryd.prog 62 xs = (fillA (fun i => ([(0, 1), (1, 1), (2, 1)] : List (Nat × Nat))[i]?) [AV.str [], AV.int .i64 0, AV.nil] xs).map .agg := by kernel_rfl
@[go_sem] theorem T63s : tSize Tryd.prog 63 = some 3 := by kernel_rfl
@[go_sem] theorem T63a : tAgg Tryd.prog 63 = some true := by kernel_rfl
@[go_sem] theorem T63z : tZero Tryd.prog 63 = some [AV.str [], AV.int .i64 0, AV.nil] := by kernel_rfl
@[go_sem] theorem T63f0p (k g off) : fieldAddrA Tryd.prog 63 0 (.ptr k g off) = some (.ptr k g (off + 0)) := fa_ptr (s := 0) (ft := 9) (by kernel_rfl) (by kernel_rfl) k g off
@[go_sem] theorem T63f0q (cs) : fieldAddrA Tryd.prog 63 0 (.fptr cs) = some (.fptr (cs.drop 0)) := fa_fptr (s := 0) (ft := 9) (by kernel_rfl) (by kernel_rfl) cs
@[go_sem] theorem T63f0v (cs) : fieldA Tryd.prog 63 0 (.agg cs) = takeT Tryd.prog 9 (cs.drop 0) := fi_agg (by kernel_rfl) cs
@[go_sem] theorem T63f1p (k g off) : fieldAddrA Tryd.prog 63 1 (.ptr k g off) = some (.ptr k g (off + 1)) := fa_ptr (s := 0) (ft := 3) (by kernel_rfl) (by kernel_rfl) k g off
@[go_sem] theorem T63f1q (cs) : fieldAddrA Tryd.prog 63 1 (.fptr cs) = some (.fptr (cs.drop 1)) := fa_fptr (s := 0) (ft := 3) (by kernel_rfl) (by kernel_rfl) cs
@[go_sem] theorem T63f1v (cs) : fieldA Tryd.prog 63 1 (.agg cs) = takeT Tryd.prog 3 (cs.drop 1) := fi_agg (by kernel_rfl) cs
@[go_sem] theorem T63f2p (k g off) : fieldAddrA Tryd.prog 63 2 (.ptr k g off) = some (.ptr k g (off + 2)) := fa_ptr (s := 0) (ft := 61) (by kernel_rfl) (by kernel_rfl) k g off
@[go_sem] theorem T63f2q (cs) : fieldAddrA Tryd.prog 63 2 (.fptr cs) = some (.fptr (cs.drop 2)) := fa_fptr (s := 0) (ft := 61) (by kernel_rfl) (by kernel_rfl) cs
@[go_sem] theorem T63f2v (cs) : fieldA Tryd.prog 63 2 (.agg cs) = takeT Tryd.prog 61 (cs.drop 2) := fi_agg (by kernel_rfl) cs
@[go_sem] theorem T63bd (xs) : aBuild Tryd.prog 63 xs = (fillA (fun i => ([(0, 1), (1, 1), (2, 1)] : List (Nat × Nat))[i]?) [AV.str [], AV.int .i64 0, AV.nil] xs).map .agg := by kernel_rfl
@[go_sem] theorem T64s : tSize Tryd.prog 64 = some 1 := by kernel_rfl
@[go_sem] theorem T64a : tAgg Tryd.prog 64 = some false := by kernel_rfl
@[go_sem] theorem T64z : tZero Tryd.prog 64 = some [AV.nilp] := by kernel_rfl
@[go_sem] theorem T75s : tSize Tryd.prog 75 = some 1 := by kernel_rfl
@[go_sem] theorem T75a : tAgg Tryd.prog 75 = some false := by kernel_rfl
@[go_sem] theorem T75z : tZero Tryd.prog 75 = some [AV.nilp] := by kernel_rfl
@[go_sem] theorem T76s : tSize Tryd.prog 76 = some 4 := by kernel_rfl
@[go_sem] theorem T76a : tAgg Tryd.prog 76 = some true := by kernel_rfl
@[go_sem] theorem T76z : tZero Tryd.prog 76 = some [AV.str [], AV.int .i64 0, AV.int .i64 0, AV.int .i64 0] := by kernel_rfl
@[go_sem] theorem T76f0p (k g off) : fieldAddrA Tryd.prog 76 0 (.ptr k g off) = some (.ptr k g (off + 0)) := fa_ptr (s := 0) (ft := 9) (by kernel_rfl) (by kernel_rfl) k g off
@[go_sem] theorem T76f0q (cs) : fieldAddrA Tryd.prog 76 0 (.fptr cs) = some (.fptr (cs.drop 0)) := fa_fptr (s := 0) (ft := 9) (by kernel_rfl) (by kernel_rfl) cs
@[go_sem] theorem T76f0v (cs) : fieldA Tryd.prog 76 0 (.agg cs) = takeT Tryd.prog 9 (cs.drop 0) := fi_agg (by kernel_rfl) cs
@[go_sem] theorem T76f1p (k g off) : fieldAddrA Tryd.prog 76 1 (.ptr k g off) = some (.ptr k g (off + 1)) := fa_ptr (s := 0) (ft := 3) (by kernel_rfl) (by kernel_rfl) k g off
@[go_sem] theorem T76f1q (cs) : fieldAddrA Tryd.prog 76 1 (.fptr cs) = some (.fptr (cs.drop 1)) := fa_fptr (s := 0) (ft := 3) (by kernel_rfl) (by kernel_rfl) cs
@[go_sem] theorem T76f1v (cs) : fieldA Tryd.prog 76 1 (.agg cs) = takeT Tryd.prog 3 (cs.drop 1) := fi_agg (by kernel_rfl) cs
@[go_sem] theorem T76f2p (k g off) : fieldAddrA Tryd.prog 76 2 (.ptr k g off) = some (.ptr k g (off + 2)) := fa_ptr (s := 0) (ft := 3) (by kernel_rfl) (by kernel_rfl) k g off
@[go_sem] theorem T76f2q (cs) : fieldAddrA Tryd.prog 76 2 (.fptr cs) = some (.fptr (cs.drop 2)) := fa_fptr (s := 0) (ft := 3) (by kernel_rfl) (by kernel_rfl) cs
@[go_sem] theorem T76f2v (cs) : fieldA Tryd.prog 76 2 (.agg cs) = takeT Tryd.prog 3 (cs.drop 2) := fi_agg (by kernel_rfl) cs
@[go_sem] theorem T76f3p (k g off) : fieldAddrA Tryd.prog 76 3 (.ptr k g off) = some (.ptr k g (off + 3)) := fa_ptr (s := 0) (ft := 3) (by kernel_rfl) (by kernel_rfl) k g off
@[go_sem] theorem T76f3q (cs) : fieldAddrA Tryd.prog 76 3 (.fptr cs) = some (.fptr (cs.drop 3)) := fa_fptr (s := 0) (ft := 3) (by kernel_rfl) (by kernel_rfl) cs
@[go_sem] theorem T76f3v (cs) : fieldA Tryd.prog 76 3 (.agg cs) = takeT Tryd.prog 3 (cs.drop 3) := fi_agg (by kernel_rfl) cs
@[go_sem] theorem T76bd (xs) : aBuild Tryd.prog 76 xs = (fillA (fun i => ([(0, 1), (1, 1), (2, 1), (3, 1)] : List (Nat × Nat))[i]?) [AV.str [], AV.int .i64 0, AV.int .i64 0, AV.int .i64 0] xs).map .agg := by kernel_rfl
@[go_sem] theorem T76lf : eqLeaves Tryd.prog 76 = some [Leaf.str, Leaf.int, Leaf.int, Leaf.int] := by kernel_rfl
@[go_sem] theorem T77s : tSize Tryd.prog 77 = some 4 := by kernel_rfl
@[go_sem] theorem T77a : tAgg Tryd.prog 77 = some true := by kernel_rfl
@[go_sem] theorem T77z : tZero Tryd.prog 77 = some [AV.str [], AV.int .i64 0, AV.int .i64 0, AV.int .i64 0] := by kernel_rfl
@[go_sem] theorem T77f0p (k g off) : fieldAddrA Tryd.prog 77 0 (.ptr k g off) = some (.ptr k g (off + 0)) := fa_ptr (s := 0) (ft := 9) (by kernel_rfl) (by kernel_rfl) k g off
@[go_sem] theorem T77f0q (cs) : fieldAddrA Tryd.prog 77 0 (.fptr cs) = some (.fptr (cs.drop 0)) := fa_fptr (s := 0) (ft := 9) (by kernel_rfl) (by kernel_rfl) cs
@[go_sem] theorem T77f0v (cs) : fieldA Tryd.prog 77 0 (.agg cs) = takeT Tryd.prog 9 (cs.drop 0) := fi_agg (by kernel_rfl) cs
@[go_sem] theorem T77f1p (k g off) : fieldAddrA Tryd.prog 77 1 (.ptr k g off) = some (.ptr k g (off + 1)) := fa_ptr (s := 0) (ft := 3) (by kernel_rfl) (by kernel_rfl) k g off
@[go_sem] theorem T77f1q (cs) : fieldAddrA Tryd.prog 77 1 (.fptr cs) = some (.fptr (cs.drop 1)) := fa_fptr (s := 0) (ft := 3) (by kernel_rfl) (by kernel_rfl) cs
@[go_sem] theorem T77f1v (cs) : fieldA Tryd.prog 77 1 (.agg cs) = takeT Tryd.prog 3 (cs.drop 1) := fi_agg (by kernel_rfl) cs
@[go_sem] theorem T77f2p (k g off) : fieldAddrA Tryd.prog 77 2 (.ptr k g off) = some (.ptr k g (off + 2)) := fa_ptr (s := 0) (ft := 3) (by kernel_rfl) (by kernel_rfl) k g off
@[go_sem] theorem T77f2q (cs) : fieldAddrA Tryd.prog 77 2 (.fptr cs) = some (.fptr (cs.drop 2)) := fa_fptr (s := 0) (ft := 3) (by kernel_rfl) (by kernel_rfl) cs
@[go_sem] theorem T77f2v (cs) : fieldA Tryd.prog 77 2 (.agg cs) = takeT Tryd.prog 3 (cs.drop 2) := fi_agg (by kernel_rfl) cs
@[go_sem] theorem T77f3p (k g off) : fieldAddrA Tryd.prog 77 3 (.ptr k g off) = some (.ptr k g (off + 3)) := fa_ptr (s := 0) (ft := 3) (by kernel_rfl) (by kernel_rfl) k g off
@[go_sem] theorem T77f3q (cs) : fieldAddrA Tryd.prog 77 3 (.fptr cs) = some (.fptr (cs.drop 3)) := fa_fptr (s := 0) (ft := 3) (by kernel_rfl) (by kernel_rfl) cs
@[go_sem] theorem T77f3v (cs) : fieldA Tryd.prog 77 3 (.agg cs) = takeT Tryd.prog 3 (cs.drop 3) := fi_agg (by kernel_rfl) cs
@[go_sem] theorem T77bd (xs) : aBuild Tryd.prog 77 xs = (fillA (fun i => ([(0, 1), (1, 1), (2, 1), (3, 1)] : List (Nat × Nat))[i]?) [AV.str [], AV.int .i64 0, AV.int .i64 0, AV.int .i64 0] xs).map .agg := by kernel_rfl
@[go_sem] theorem T77lf : eqLeaves Tryd.prog 77 = some [Leaf.str, Leaf.int, Leaf.int, Leaf.int] := by kernel_rfl
@[go_sem] theorem T84s : tSize Tryd.prog 84 = some 1 := by kernel_rfl
@[go_sem] theorem T84a : tAgg Tryd.prog 84 = some false := by kernel_rfl
@[go_sem] theorem T84z : tZero Tryd.prog 84 = some [AV.nilp] := by kernel_rfl
@[go_sem] theorem T89s : tSize Tryd.prog 89 = some 1 := by kernel_rfl
@[go_sem] theorem T89a : tAgg Tryd.prog 89 = some false := by kernel_rfl
@[go_sem] theorem T89z : tZero Tryd.prog 89 = some [AV.nilp] := by kernel_rfl
@[go_sem] theorem T90s : tSize Tryd.prog 90 = some 2 := by kernel_rfl
@[go_sem] theorem T90a : tAgg Tryd.prog 90 = some true := by kernel_rfl
@[go_sem] theorem T90z : tZero Tryd.prog 90 = some [AV.nilp, AV.nil] := by kernel_rfl
@[go_sem] theorem T90f0p (k g off) : fieldAddrA Tryd.prog 90 0 (.ptr k g off) = some (.ptr k g (off + 0)) := fa_ptr (s := 0) (ft := 89) (by kernel_rfl) (by kernel_rfl) k g off
@[go_sem] theorem T90f0q (cs) : fieldAddrA Tryd.prog 90 0 (.fptr cs) = some (.fptr (cs.drop 0)) := fa_fptr (s := 0) (ft := 89) (by kernel_rfl) (by kernel_rfl) cs
@[go_sem] theorem T90f0v (cs) : fieldA Tryd.prog 90 0 (.agg cs) = takeT Tryd.prog 89 (cs.drop 0) := fi_agg (by kernel_rfl) cs
@[go_sem] theorem T90f1p (k g off) : fieldAddrA Tryd.prog 90 1 (.ptr k g off) = some (.ptr k g (off + 1)) := fa_ptr (s := 0) (ft := 31) (by kernel_rfl) (by kernel_rfl) k g off
@[go_sem] theorem T90f1q (cs) : fieldAddrA Tryd.prog 90 1 (.fptr cs) = some (.fptr (cs.drop 1)) := fa_fptr (s := 0) (ft := 31) (by kernel_rfl) (by kernel_rfl) cs
@[go_sem] theorem T90f1v (cs) : fieldA Tryd.prog 90 1 (.agg cs) = takeT Tryd.prog 31 (cs.drop 1) := fi_agg (by kernel_rfl) cs
@[go_sem] theorem T90bd (xs) : aBuild Tryd.prog 90 xs = (fillA (fun i => ([(0, 1), (1, 1)] : List (Nat × Nat))[i]?) [AV.nilp, AV.nil] xs).map .agg := by kernel_rfl
@[go_sem] theorem T91s : tSize Tryd.prog 91 = some 2 := by kernel_rfl
@[go_sem] theorem T91a : tAgg Tryd.prog 91 = some true := by kernel_rfl
@[go_sem] theorem T91z : tZero Tryd.prog 91 = some [AV.nilp, AV.nil] := by kernel_rfl
@[go_sem] theorem T91f0p (k g off) : fieldAddrA Tryd.prog 91 0 (.ptr k g off) = some (.ptr k g (off + 0)) := fa_ptr (s := 0) (ft := 89) (by kernel_rfl) (by kernel_rfl) k g off
@[go_sem] theorem T91f0q (cs) : fieldAddrA Tryd.prog 91 0 (.fptr cs) = some (.fptr (cs.drop 0)) := fa_fptr (s := 0) (ft := 89) (by kernel_rfl) (by kernel_rfl) cs
@[go_sem] theorem T91f0v (cs) : fieldA Tryd.prog 91 0 (.agg cs) = takeT Tryd.prog 89 (cs.drop 0) := fi_agg (by kernel_rfl) cs
@[go_sem] theorem T91f1p (k g off) : fieldAddrA Tryd.prog 91 1 (.ptr k g off) = some (.ptr k g (off + 1)) := fa_ptr (s := 0) (ft := 31) (by kernel_rfl) (by kernel_rfl) k g off
@[go_sem] theorem T91f1q (cs) : fieldAddrA Tryd.prog 91 1 (.fptr cs) = some (.fptr (cs.drop 1)) := fa_fptr (s := 0) (ft := 31) (by kernel_rfl) (by kernel_rfl) cs
@[go_sem] theorem T91f1v (cs) : fieldA Tryd.prog 91 1 (.agg cs) = takeT Tryd.prog 31 (cs.drop 1) := fi_agg (by kernel_rfl) cs
@[go_sem] theorem T91bd (xs) : aBuild Tryd.prog 91 xs = (fillA (fun i => ([(0, 1), (1, 1)] : List (Nat × Nat))[i]?) [AV.nilp, AV.nil] xs).map .agg := by kernel_rfl
@[go_sem] theorem T99s : tSize Tryd.prog 99 = some 1 := by kernel_rfl
@[go_sem] theorem T99a : tAgg Tryd.prog 99 = some false := by kernel_rfl
@[go_sem] theorem T99z : tZero Tryd.prog 99 = some [AV.nilp] := by kernel_rfl
@[go_sem] theorem T101s : tSize Tryd.prog 101 = some 2 := by kernel_rfl
@[go_sem] theorem T101a : tAgg Tryd.prog 101 = some true := by kernel_rfl
@[go_sem] theorem T101z : tZero Tryd.prog 101 = some [AV.int .i64 0, AV.int .i64 0] := by kernel_rfl
@[go_sem] theorem T101ln (o x) : aLen Tryd.prog o 101 x = some (.int .i64 2) := ln_arr (e := 3) (by kernel_rfl) o x
@[go_sem] theorem T101ix1 (cs i) : aIndexAddr Tryd.prog 101 (.fptr cs) i = if 0 ≤ i ∧ i < 2 then some (.fptr (cs.drop (i.toNat * 1))) else none := ixa_fptr (n := 2) (e := 3) (s := 1) (by kernel_rfl) (by kernel_rfl) cs i
@[go_sem] theorem T101ix2 (k g off i) : aIndexAddr Tryd.prog 101 (.ptr k g off) i = if 0 ≤ i ∧ i < 2 then some (.ptr k g (off + i.toNat * 1)) else none := ixa_ptr (n := 2) (e := 3) (s := 1) (by kernel_rfl) (by kernel_rfl) k g off i
@[go_sem] theorem T101iv (cs i) : aIndex Tryd.prog 101 (.agg cs) i = if 0 ≤ i ∧ i < 2 then takeT Tryd.prog 3 (cs.drop (i.toNat * 1)) else none := ixv_agg (n := 2) (e := 3) (s := 1) (by kernel_rfl) (by kernel_rfl) cs i
@[go_sem] theorem T101bd (xs) : aBuild Tryd.prog 101 xs = (fillA (fun i => some (i * 1, 1)) [AV.int .i64 0, AV.int .i64 0] xs).map .agg := bd_array (n := 2) (e := 3) (by kernel_rfl) (by kernel_rfl) (by kernel_rfl) xs
@[go_sem] theorem T101lf : eqLeaves Tryd.prog 101 = some [Leaf.int, Leaf.int] := by kernel_rfl
@[go_sem] theorem T102s : tSize Tryd.prog 102 = some 2 := by kernel_rfl
@[go_sem] theorem T102a : tAgg Tryd.prog 102 = some true := by kernel_rfl
@[go_sem] theorem T102z : tZero Tryd.prog 102 = some [AV.int .u8 0, AV.int .u8 0] := by kernel_rfl
@[go_sem] theorem T102ln (o x) : aLen Tryd.prog o 102 x = some (.int .i64 2) := ln_arr (e := 5) (by kernel_rfl) o x
@[go_sem] theorem T102ix1 (cs i) : aIndexAddr Tryd.prog 102 (.fptr cs) i = if 0 ≤ i ∧ i < 2 then some (.fptr (cs.drop (i.toNat * 1))) else none := ixa_fptr (n := 2) (e := 5) (s := 1) (by kernel_rfl) (by kernel_rfl) cs i
@[go_sem] theorem T102ix2 (k g off i) : aIndexAddr Tryd.prog 102 (.ptr k g off) i = if 0 ≤ i ∧ i < 2 then some (.ptr k g (off + i.toNat * 1)) else none := ixa_ptr (n := 2) (e := 5) (s := 1) (by kernel_rfl) (by kernel_rfl) k g off i
@[go_sem] theorem T102iv (cs i) : aIndex Tryd.prog 102 (.agg cs) i = if 0 ≤ i ∧ i < 2 then takeT Tryd.prog 5 (cs.drop (i.toNat * 1)) else none := ixv_agg (n := 2) (e := 5) (s := 1) (by kernel_rfl) (by kernel_rfl) cs i
@[go_sem] theorem T102bd (xs) : aBuild Tryd.prog 102 xs = (fillA (fun i => some (i * 1, 1)) [AV.int .u8 0, AV.int .u8 0] xs).map .agg := bd_array (n := 2) (e := 5) (by kernel_rfl) (by kernel_rfl) (by kernel_rfl) xs
@[go_sem] theorem T102lf : eqLeaves Tryd.prog 102 = some [Leaf.int, Leaf.int] := by kernel_rfl
@[go_sem] theorem T106s : tSize Tryd.prog 106 = some 24 := by kernel_rfl
@[go_sem] theorem T106a : tAgg Tryd.prog 106 = some true := by kernel_rfl
@[go_sem] theorem T106z : tZero Tryd.prog 106 = some [AV.int .u8 0, AV.int .u8 0, AV.int .u8 0, AV.int .u8 0, AV.int .u8 0, AV.int .u8 0, AV.int .u8 0, AV.int .u8 0, AV.int .u8 0, AV.int .u8 0, AV.int .u8 0, AV.int .u8 0, AV.int .u8 0, AV.int .u8 0, AV.int .u8 0, AV.int .u8 0, AV.int .u8 0, AV.int .u8 0, AV.int .u8 0, AV.int .u8 0, AV.int .u8 0, AV.int .u8 0, AV.int .u8 0, AV.int .u8 0] := by kernel_rfl
@[go_sem] theorem T106ln (o x) : aLen Tryd.prog o 106 x = some (.int .i64 24) := ln_arr (e := 5) (by kernel_rfl) o x
@[go_sem] theorem T106ix1 (cs i) : aIndexAddr Tryd.prog 106 (.fptr cs) i = if 0 ≤ i ∧ i < 24 then some (.fptr (cs.drop (i.toNat * 1))) else none := ixa_fptr (n := 24) (e := 5) (s := 1) (by kernel_rfl) (by kernel_rfl) cs i
@[go_sem] theorem T106ix2 (k g off i) : aIndexAddr Tryd.prog 106 (.ptr k g off) i = if 0 ≤ i ∧ i < 24 then some (.ptr k g (off + i.toNat * 1)) else none := ixa_ptr (n := 24) (e := 5) (s := 1) (by kernel_rfl) (by kernel_rfl) k g off i
@[go_sem] theorem T106iv (cs i) : aIndex Tryd.prog 106 (.agg cs) i = if 0 ≤ i ∧ i < 24 then takeT Tryd.prog 5 (cs.drop (i.toNat * 1)) else none := ixv_agg (n := 24) (e := 5) (s := 1) (by kernel_rfl) (by kernel_rfl) cs i
@[go_sem] theorem T106bd (xs) : aBuild Tryd.prog 106 xs = (fillA (fun i => some (i * 1, 1)) [AV.int .u8 0, AV.int .u8 0, AV.int .u8 0, AV.int .u8 0, AV.int .u8 0, AV.int .u8 0, AV.int .u8 0, AV.int .u8 0, AV.int .u8 0, AV.int .u8 0, AV.int .u8 0, AV.int .u8 0, AV.int .u8 0, AV.int .u8 0, AV.int .u8 0, AV.int .u8 0, AV.int .u8 0, AV.int .u8 0, AV.int .u8 0, AV.int .u8 0, AV.int .u8 0, AV.int .u8 0, AV.int .u8 0, AV.int .u8 0] xs).map .agg := bd_array (n := 24) (e := 5) (by kernel_rfl) (by kernel_rfl) (by kernel_rfl) xs
@[go_sem] theorem T106lf : eqLeaves Tryd.prog 106 = some [Leaf.int, Leaf.int, Leaf.int, Leaf.int, Leaf.int, Leaf.int, Leaf.int, Leaf.int, Leaf.int, Leaf.int, Leaf.int, Leaf.int, Leaf.int, Leaf.int, Leaf.int, Leaf.int, Leaf.int, Leaf.int, Leaf.int, Leaf.int, Leaf.int, Leaf.int, Leaf.int, Leaf.int] := by kernel_rfl
@[go_sem] theorem T107s : tSize Tryd.prog 107 = some 1 := by kernel_rfl
@[go_sem] theorem T107a : tAgg Tryd.prog 107 = some false := by kernel_rfl
@[go_sem] theorem T107z : tZero Tryd.prog 107 = some [AV.int .u64 0] := by kernel_rfl
@[go_sem] theorem T107u : Tryd.prog.underlying 107 = some (.int .u64) := by kernel_rfl
@[go_sem] theorem T113s : tSize Tryd.prog 113 = some 20 := by kernel_rfl
@[go_sem] theorem T113a : tAgg Tryd.prog 113 = some true := by kernel_rfl
@[go_sem] theorem T113z : tZero Tryd.prog 113 = some [AV.int .u64 0, AV.int .u64 0, AV.int .u64 0, AV.int .u64 0, AV.int .u64 0, AV.int .u64 0, AV.int .u64 0, AV.int .u64 0, AV.int .u64 0, AV.int .u64 0, AV.int .u64 0, AV.int .u64 0, AV.int .u64 0, AV.int .u64 0, AV.int .u64 0, AV.int .u64 0, AV.int .u64 0, AV.int .u64 0, AV.int .u64 0, AV.int .u64 0] := by kernel_rfl
@[go_sem] theorem T113ln (o x) : aLen Tryd.prog o 113 x = some (.int .i64 20) := ln_arr (e := 107) (by kernel_rfl) o x
@[go_sem] theorem T113ix1 (cs i) : aIndexAddr Tryd.prog 113 (.fptr cs) i = if 0 ≤ i ∧ i < 20 then some (.fptr (cs.drop (i.toNat * 1))) else none := ixa_fptr (n := 20) (e := 107) (s := 1) (by kernel_rfl) (by kernel_rfl) cs i
@[go_sem] theorem T113ix2 (k g off i) : aIndexAddr Tryd.prog 113 (.ptr k g off) i = if 0 ≤ i ∧ i < 20 then some (.ptr k g (off + i.toNat * 1)) else none := ixa_ptr (n := 20) (e := 107) (s := 1) (by kernel_rfl) (by kernel_rfl) k g off i
@[go_sem] theorem T113iv (cs i) : aIndex Tryd.prog 113 (.agg cs) i = if 0 ≤ i ∧ i < 20 then takeT Tryd.prog 107 (cs.drop (i.toNat * 1)) else none := ixv_agg (n := 20) (e := 107) (s := 1) (by kernel_rfl) (by kernel_rfl) cs i
@[go_sem] theorem T113bd (xs) : aBuild Tryd.prog 113 xs = (fillA (fun i => some (i * 1, 1)) [AV.int .u64 0, AV.int .u64 0, AV.int .u64 0, AV.int .u64 0, AV.int .u64 0, AV.int .u64 0, AV.int .u64 0, AV.int .u64 0, AV.int .u64 0, AV.int .u64 0, AV.int .u64 0, AV.int .u64 0, AV.int .u64 0, AV.int .u64 0, AV.int .u64 0, AV.int .u64 0, AV.int .u64 0, AV.int .u64 0, AV.int .u64 0, AV.int .u64 0] xs).map .agg := bd_array (n := 20) (e := 107) (by kernel_rfl) (by kernel_rfl) (by kernel_rfl) xs
@[go_sem] theorem T113lf : eqLeaves Tryd.prog 113 = some [Leaf.int, Leaf.int, Leaf.int, Leaf.int, Leaf.int, Leaf.int, Leaf.int, Leaf.int, Leaf.int, Leaf.int, Leaf.int, Leaf.int, Leaf.int, Leaf.int, Leaf.int, Leaf.int, Leaf.int, Leaf.int, Leaf.int, Leaf.int] := by kernel_rfl
@[go_sem] theorem T114s : tSize Tryd.prog 114 = some 1 := by kernel_rfl
@[go_sem] theorem T114a : tAgg Tryd.prog 114 = some false := by kernel_rfl
@[go_sem] theorem T114z : tZero Tryd.prog 114 = some [AV.int .u32 0] := by kernel_rfl
@[go_sem] theorem T114u : Tryd.prog.underlying 114 = some (.int .u32) := by kernel_rfl
@[go_sem] theorem T115s : tSize Tryd.prog 115 = some 65 := by kernel_rfl
@[go_sem] theorem T115a : tAgg Tryd.prog 115 = some true := by kernel_rfl
@[go_sem] theorem T115z : tZero Tryd.prog 115 = some [AV.int .u8 0, AV.int .u8 0, AV.int .u8 0, AV.int .u8 0, AV.int .u8 0, AV.int .u8 0, AV.int .u8 0, AV.int .u8 0, AV.int .u8 0, AV.int .u8 0, AV.int .u8 0, AV.int .u8 0, AV.int .u8 0, AV.int .u8 0, AV.int .u8 0, AV.int .u8 0, AV.int .u8 0, AV.int .u8 0, AV.int .u8 0, AV.int .u8 0, AV.int .u8 0, AV.int .u8 0, AV.int .u8 0, AV.int .u8 0, AV.int .u8 0, AV.int .u8 0, AV.int .u8 0, AV.int .u8 0, AV.int .u8 0, AV.int .u8 0, AV.int .u8 0, AV.int .u8 0, AV.int .u8 0, AV.int .u8 0, AV.int .u8 0, AV.int .u8 0, AV.int .u8 0, AV.int .u8 0, AV.int .u8 0, AV.int .u8 0, AV.int .u8 0, AV.int .u8 0, AV.int .u8 0, AV.int .u8 0, AV.int .u8 0, AV.int .u8 0, AV.int .u8 0, AV.int .u8 0, AV.int .u8 0, AV.int .u8 0, AV.int .u8 0, AV.int .u8 0, AV.int .u8 0, AV.int .u8 0, AV.int .u8 0, AV.int .u8 0, AV.int .u8 0, AV.int .u8 0, AV.int .u8 0, AV.int .u8 0, AV.int .u8 0, AV.int .u8 0, AV.int .u8 0, AV.int .u8 0, AV.int .u8 0] := by kernel_rfl
@[go_sem] theorem T115ln (o x) : aLen Tryd.prog o 115 x = some (.int .i64 65) := ln_arr (e := 5) (by kernel_rfl) o x
@[go_sem] theorem T115ix1 (cs i) : aIndexAddr Tryd.prog 115 (.fptr cs) i = if 0 ≤ i ∧ i < 65 then some (.fptr (cs.drop (i.toNat * 1))) else none := ixa_fptr (n := 65) (e := 5) (s := 1) (by kernel_rfl) (by kernel_rfl) cs i
@[go_sem] theorem T115ix2 (k g off i) : aIndexAddr Tryd.prog 115 (.ptr k g off) i = if 0 ≤ i ∧ i < 65 then some (.ptr k g (off + i.toNat * 1)) else none := ixa_ptr (n := 65) (e := 5) (s := 1) (by kernel_rfl) (by kernel_rfl) k g off i
@[go_sem] theorem T115iv (cs i) : aIndex Tryd.prog 115 (.agg cs) i = if 0 ≤ i ∧ i < 65 then takeT Tryd.prog 5 (cs.drop (i.toNat * 1)) else none := ixv_agg (n := 65) (e := 5) (s := 1) (by kernel_rfl) (by kernel_rfl) cs i
@[go_sem] theorem T115bd (xs) : aBuild Tryd.prog 115 xs = (fillA (fun i => some (i * 1, 1)) [AV.int .u8 0, AV.int .u8 0, AV.int .u8 0, AV.int .u8 0, AV.int .u8 0, AV.int .u8 0, AV.int .u8 0, AV.int .u8 0, AV.int .u8 0, AV.int .u8 0, AV.int .u8 0, AV.int .u8 0, AV.int .u8 0, AV.int .u8 0, AV.int .u8 0, AV.int .u8 0, AV.int .u8 0, AV.int .u8 0, AV.int .u8 0, AV.int .u8 0, AV.int .u8 0, AV.int .u8 0, AV.int .u8 0, AV.int .u8 0, AV.int .u8 0, AV.int .u8 0, AV.int .u8 0, AV.int .u8 0, AV.int .u8 0, AV.int .u8 0, AV.int .u8 0, AV.int .u8 0, AV.int .u8 0, AV.int .u8 0, AV.int .u8 0, AV.int .u8 0, AV.int .u8 0, AV.int .u8 0, AV.int .u8 0, AV.int .u8 0, AV.int .u8 0, AV.int .u8 0, AV.int .u8 0, AV.int .u8 0, AV.int .u8 0, AV.int .u8 0, AV.int .u8 0, AV.int .u8 0, AV.int .u8 0, AV.int .u8 0, AV.int .u8 0, AV.int .u8 0, AV.int .u8 0, AV.int .u8 0, AV.int .u8 0, AV.int .u8 0, AV.int .u8 0, AV.int .u8 0, AV.int .u8 0, AV.int .u8 0, AV.int .u8 0, AV.int .u8 0, AV.int .u8 0, AV.int .u8 0, AV.int .u8 0] xs).map .agg := bd_array (n := 65) (e := 5) (by kernel_rfl) (by kernel_rfl) (by kernel_rfl) xs
@[go_sem] theorem T115lf : eqLeaves Tryd.prog 115 = some [Leaf.int, Leaf.int, Leaf.int, Leaf.int, Leaf.int, Leaf.int, Leaf.int, Leaf.int, Leaf.int, Leaf.int, Leaf.int, Leaf.int, Leaf.int, Leaf.int, Leaf.int, Leaf.int, Leaf.int, Leaf.int, Leaf.int, Leaf.int, Leaf.int, Leaf.int, Leaf.int, Leaf.int, Leaf.int, Leaf.int, Leaf.int, Leaf.int, Leaf.int, Leaf.int, Leaf.int, Leaf.int, Leaf.int, Leaf.int, Leaf.int, Leaf.int, Leaf.int, Leaf.int, Leaf.int, Leaf.int, Leaf.int, Leaf.int, Leaf.int, Leaf.int, Leaf.int, Leaf.int, Leaf.int, Leaf.int, Leaf.int, Leaf.int, Leaf.int, Leaf.int, Leaf.int, Leaf.int, Leaf.int, Leaf.int, Leaf.int, Leaf.int, Leaf.int, Leaf.int, Leaf.int, Leaf.int, Leaf.int, Leaf.int, Leaf.int] := by kernel_rfl
@[go_sem] theorem T118s : tSize Tryd.prog 118 = some 32 := by kernel_rfl
@[go_sem] theorem T118a : tAgg Tryd.prog 118 = some true := by kernel_rfl
@[go_sem] theorem T118z : tZero Tryd.prog 118 = some [AV.int .u8 0, AV.int .u8 0, AV.int .u8 0, AV.int .u8 0, AV.int .u8 0, AV.int .u8 0, AV.int .u8 0, AV.int .u8 0, AV.int .u8 0, AV.int .u8 0, AV.int .u8 0, AV.int .u8 0, AV.int .u8 0, AV.int .u8 0, AV.int .u8 0, AV.int .u8 0, AV.int .u8 0, AV.int .u8 0, AV.int .u8 0, AV.int .u8 0, AV.int .u8 0, AV.int .u8 0, AV.int .u8 0, AV.int .u8 0, AV.int .u8 0, AV.int .u8 0, AV.int .u8 0, AV.int .u8 0, AV.int .u8 0, AV.int .u8 0, AV.int .u8 0, AV.int .u8 0] := by kernel_rfl
@[go_sem] theorem T118ln (o x) : aLen Tryd.prog o 118 x = some (.int .i64 32) := ln_arr (e := 5) (by kernel_rfl) o x
@[go_sem] theorem T118ix1 (cs i) : aIndexAddr Tryd.prog 118 (.fptr cs) i = if 0 ≤ i ∧ i < 32 then some (.fptr (cs.drop (i.toNat * 1))) else none := ixa_fptr (n := 32) (e := 5) (s := 1) (by kernel_rfl) (by kernel_rfl) cs i
@[go_sem] theorem T118ix2 (k g off i) : aIndexAddr Tryd.prog 118 (.ptr k g off) i = if 0 ≤ i ∧ i < 32 then some (.ptr k g (off + i.toNat * 1)) else none := ixa_ptr (n := 32) (e := 5) (s := 1) (by kernel_rfl) (by kernel_rfl) k g off i
@[go_sem] theorem T118iv (cs i) : aIndex Tryd.prog 118 (.agg cs) i = if 0 ≤ i ∧ i < 32 then takeT Tryd.prog 5 (cs.drop (i.toNat * 1)) else none := ixv_agg (n := 32) (e := 5) (s := 1) (by kernel_rfl) (by kernel_rfl) cs i
@[go_sem] theorem T118bd (xs) : aBuild Tryd.prog 118 xs = (fillA (fun i => some (i * 1, 1)) [AV.int .u8 0, AV.int .u8 0, AV.int .u8 0, AV.int .u8 0, AV.int .u8 0, AV.int .u8 0, AV.int .u8 0, AV.int .u8 0, AV.int .u8 0, AV.int .u8 0, AV.int .u8 0, AV.int .u8 0, AV.int .u8 0, AV.int .u8 0, AV.int .u8 0, AV.int .u8 0, AV.int .u8 0, AV.int .u8 0, AV.int .u8 0, AV.int .u8 0, AV.int .u8 0, AV.int .u8 0, AV.int .u8 0, AV.int .u8 0, AV.int .u8 0, AV.int .u8 0, AV.int .u8 0, AV.int .u8 0, AV.int .u8 0, AV.int .u8 0, AV.int .u8 0, AV.int .u8 0] xs).map .agg := bd_array (n := 32) (e := 5) (by kernel_rfl) (by kernel_rfl) (by kernel_rfl) xs
@[go_sem] theorem T118lf : eqLeaves Tryd.prog 118 = some [Leaf.int, Leaf.int, Leaf.int, Leaf.int, Leaf.int, Leaf.int, Leaf.int, Leaf.int, Leaf.int, Leaf.int, Leaf.int, Leaf.int, Leaf.int, Leaf.int, Leaf.int, Leaf.int, Leaf.int, Leaf.int, Leaf.int, Leaf.int, Leaf.int, Leaf.int, Leaf.int, Leaf.int, Leaf.int, Leaf.int, Leaf.int, Leaf.int, Leaf.int, Leaf.int, Leaf.int, Leaf.int] := by kernel_rfl
@[go_sem] theorem T119s : tSize Tryd.prog 119 = some 64 := by kernel_rfl
@[go_sem] theorem T119a : tAgg Tryd.prog 119 = some true := by kernel_rfl
@[go_sem] theorem T119z : tZero Tryd.prog 119 = some [AV.int .u8 0, AV.int .u8 0, AV.int .u8 0, AV.int .u8 0, AV.int .u8 0, AV.int .u8 0, AV.int .u8 0, AV.int .u8 0, AV.int .u8 0, AV.int .u8 0, AV.int .u8 0, AV.int .u8 0, AV.int .u8 0, AV.int .u8 0, AV.int .u8 0, AV.int .u8 0, AV.int .u8 0, AV.int .u8 0, AV.int .u8 0, AV.int .u8 0, AV.int .u8 0, AV.int .u8 0, AV.int .u8 0, AV.int .u8 0, AV.int .u8 0, AV.int .u8 0, AV.int .u8 0, AV.int .u8 0, AV.int .u8 0, AV.int .u8 0, AV.int .u8 0, AV.int .u8 0, AV.int .u8 0, AV.int .u8 0, AV.int .u8 0, AV.int .u8 0, AV.int .u8 0, AV.int .u8 0, AV.int .u8 0, AV.int .u8 0, AV.int .u8 0, AV.int .u8 0, AV.int .u8 0, AV.int .u8 0, AV.int .u8 0, AV.int .u8 0, AV.int .u8 0, AV.int .u8 0, AV.int .u8 0, AV.int .u8 0, AV.int .u8 0, AV.int .u8 0, AV.int .u8 0, AV.int .u8 0, AV.int .u8 0, AV.int .u8 0, AV.int .u8 0, AV.int .u8 0, AV.int .u8 0, AV.int .u8 0, AV.int .u8 0, AV.int .u8 0, AV.int .u8 0, AV.int .u8 0] := by kernel_rfl
@[go_sem] theorem T119ln (o x) : aLen Tryd.prog o 119 x = some (.int .i64 64) := ln_arr (e := 5) (by kernel_rfl) o x
@[go_sem] theorem T119ix1 (cs i) : aIndexAddr Tryd.prog 119 (.fptr cs) i = if 0 ≤ i ∧ i < 64 then some (.fptr (cs.drop (i.toNat * 1))) else none := ixa_fptr (n := 64) (e := 5) (s := 1) (by kernel_rfl) (by kernel_rfl) cs i
@[go_sem] theorem T119ix2 (k g off i) : aIndexAddr Tryd.prog 119 (.ptr k g off) i = if 0 ≤ i ∧ i < 64 then some (.ptr k g (off + i.toNat * 1)) else none := ixa_ptr (n := 64) (e := 5) (s := 1) (by kernel_rfl) (by kernel_rfl) k g off i
@[go_sem] theorem T119iv (cs i) : aIndex Tryd.prog 119 (.agg cs) i = if 0 ≤ i ∧ i < 64 then takeT Tryd.prog 5 (cs.drop (i.toNat * 1)) else none := ixv_agg (n := 64) (e := 5) (s := 1) (by kernel_rfl) (by kernel_rfl) cs i
@[go_sem] theorem T119bd (xs) : aBuild Tryd.prog 119 xs = (fillA (fun i => some (i * 1, 1)) [AV.int .u8 0, AV.int .u8 0, AV.int .u8 0, AV.int .u8 0, AV.int .u8 0, AV.int .u8 0, AV.int .u8 0, AV.int .u8 0, AV.int .u8 0, AV.int .u8 0, AV.int .u8 0, AV.int .u8 0, AV.int .u8 0, AV.int .u8 0, AV.int .u8 0, AV.int .u8 0, AV.int .u8 0, AV.int .u8 0, AV.int .u8 0, AV.int .u8 0, AV.int .u8 0, AV.int .u8 0, AV.int .u8 0, AV.int .u8 0, AV.int .u8 0, AV.int .u8 0, AV.int .u8 0, AV.int .u8 0, AV.int .u8 0, AV.int .u8 0, AV.int .u8 0, AV.int .u8 0, AV.int .u8 0, AV.int .u8 0, AV.int .u8 0, AV.int .u8 0, AV.int .u8 0, AV.int .u8 0, AV.int .u8 0, AV.int .u8 0, AV.int .u8 0, AV.int .u8 0, AV.int .u8 0, AV.int .u8 0, AV.int .u8 0, AV.int .u8 0, AV.int .u8 0, AV.int .u8 0, AV.int .u8 0, AV.int .u8 0, AV.int .u8 0, AV.int .u8 0, AV.int .u8 0, AV.int .u8 0, AV.int .u8 0, AV.int .u8 0, AV.int .u8 0, AV.int .u8 0, AV.int .u8 0, AV.int .u8 0, AV.int .u8 0, AV.int .u8 0, AV.int .u8 0, AV.int .u8 0] xs).map .agg := bd_array (n := 64) (e := 5) (by kernel_rfl) (by kernel_rfl) (by kernel_rfl) xs
@[go_sem] theorem T119lf : eqLeaves Tryd.prog 119 = some [Leaf.int, Leaf.int, Leaf.int, Leaf.int, Leaf.int, Leaf.int, Leaf.int, Leaf.int, Leaf.int, Leaf.int, Leaf.int, Leaf.int, Leaf.int, Leaf.int, Leaf.int, Leaf.int, Leaf.int, Leaf.int, Leaf.int, Leaf.int, Leaf.int, Leaf.int, Leaf.int, Leaf.int, Leaf.int, Leaf.int, Leaf.int, Leaf.int, Leaf.int, Leaf.int, Leaf.int, Leaf.int, Leaf.int, Leaf.int, Leaf.int, Leaf.int, Leaf.int, Leaf.int, Leaf.int, Leaf.int, Leaf.int, Leaf.int, Leaf.int, Leaf.int, Leaf.int, Leaf.int, Leaf.int, Leaf.int, Leaf.int, Leaf.int, Leaf.int, Leaf.int, Leaf.int, Leaf.int, Leaf.int, Leaf.int, Leaf.int, Leaf.int, Leaf.int, Leaf.int, Leaf.int, Leaf.int, Leaf.int, Leaf.int] := by kernel_rfl
@[go_sem] theorem T120s : tSize Tryd.prog 120 = some 4 := by kernel_rfl
@[go_sem] theorem T120a : tAgg Tryd.prog 120 = some true := by kernel_rfl
@[go_sem] theorem T120z : tZero Tryd.prog 120 = some [AV.nilp, AV.nilp, AV.nilp, AV.str []] := by kernel_rfl
@[go_sem] theorem T120f0p (k g off) : fieldAddrA Tryd.prog 120 0 (.ptr k g off) = some (.ptr k g (off + 0)) := fa_ptr (s := 0) (ft := 17) (by kernel_rfl) (by kernel_rfl) k g off
@[go_sem] theorem T120f0q (cs) : fieldAddrA Tryd.prog 120 0 (.fptr cs) = some (.fptr (cs.drop 0)) := fa_fptr (s := 0) (ft := 17) (by kernel_rfl) (by kernel_rfl) cs
@[go_sem] theorem T120f0v (cs) : fieldA Tryd.prog 120 0 (.agg cs) = takeT Tryd.prog 17 (cs.drop 0) := fi_agg (by kernel_rfl) cs
@[go_sem] theorem T120f1p (k g off) : fieldAddrA Tryd.prog 120 1 (.ptr k g off) = some (.ptr k g (off + 1)) := fa_ptr (s := 0) (ft := 17) (by kernel_rfl) (by kernel_rfl) k g off
@[go_sem] theorem T120f1q (cs) : fieldAddrA Tryd.prog 120 1 (.fptr cs) = some (.fptr (cs.drop 1)) := fa_fptr (s := 0) (ft := 17) (by kernel_rfl) (by kernel_rfl) cs
@[go_sem] theorem T120f1v (cs) : fieldA Tryd.prog 120 1 (.agg cs) = takeT Tryd.prog 17 (cs.drop 1) := fi_agg (by kernel_rfl) cs
@[go_sem] theorem T120f2p (k g off) : fieldAddrA Tryd.prog 120 2 (.ptr k g off) = some (.ptr k g (off + 2)) := fa_ptr (s := 0) (ft := 17) (by kernel_rfl) (by kernel_rfl) k g off
@[go_sem] theorem T120f2q (cs) : fieldAddrA Tryd.prog 120 2 (.fptr cs) = some (.fptr (cs.drop 2)) := fa_fptr (s := 0) (ft := 17) (by kernel_rfl) (by kernel_rfl) cs
@[go_sem] theorem T120f2v (cs) : fieldA Tryd.prog 120 2 (.agg cs) = takeT Tryd.prog 17 (cs.drop 2) := fi_agg (by kernel_rfl) cs
@[go_sem] theorem T120f3p (k g off) : fieldAddrA Tryd.prog 120 3 (.ptr k g off) = some (.ptr k g (off + 3)) := fa_ptr (s := 0) (ft := 9) (by kernel_rfl) (by kernel_rfl) k g off
@[go_sem] theorem T120f3q (cs) : fieldAddrA Tryd.prog 120 3 (.fptr cs) = some (.fptr (cs.drop 3)) := fa_fptr (s := 0) (ft := 9) (by kernel_rfl) (by kernel_rfl) cs
@[go_sem] theorem T120f3v (cs) : fieldA Tryd.prog 120 3 (.agg cs) = takeT Tryd.prog 9 (cs.drop 3) := fi_agg (by kernel_rfl) cs
@[go_sem] theorem T120bd (xs) : aBuild Tryd.prog 120 xs = (fillA (fun i => ([(0, 1), (1, 1), (2, 1), (3, 1)] : List (Nat × Nat))[i]?) [AV.nilp, AV.nilp, AV.nilp, AV.str []] xs).map .agg := by kernel_rfl
@[go_sem] theorem T121s : tSize Tryd.prog 121 = some 4 := by kernel_rfl
@[go_sem] theorem T121a : tAgg Tryd.prog 121 = some true := by kernel_rfl
@[go_sem] theorem T121z : tZero Tryd.prog 121 = some [AV.nilp, AV.nilp, AV.nilp, AV.str []] := by kernel_rfl
@[go_sem] theorem T121f0p (k g off) : fieldAddrA Tryd.prog 121 0 (.ptr k g off) = some (.ptr k g (off + 0)) := fa_ptr (s := 0) (ft := 17) (by kernel_rfl) (by kernel_rfl) k g off
@[go_sem] theorem T121f0q (cs) : fieldAddrA Tryd.prog 121 0 (.fptr cs) = some (.fptr (cs.drop 0)) := fa_fptr (s := 0) (ft := 17) (by kernel_rfl) (by kernel_rfl) cs
@[go_sem] theorem T121f0v (cs) : fieldA Tryd.prog 121 0 (.agg cs) = takeT Tryd.prog 17 (cs.drop 0) := fi_agg (by kernel_rfl) cs
@[go_sem] theorem T121f1p (k g off) : fieldAddrA Tryd.prog 121 1 (.ptr k g off) = some (.ptr k g (off + 1)) := fa_ptr (s := 0) (ft := 17) (by kernel_rfl) (by kernel_rfl) k g off
@[go_sem] theorem T121f1q (cs) : fieldAddrA Tryd.prog 121 1 (.fptr cs) = some (.fptr (cs.drop 1)) := fa_fptr (s := 0) (ft := 17) (by kernel_rfl) (by kernel_rfl) cs
@[go_sem] theorem T121f1v (cs) : fieldA Tryd.prog 121 1 (.agg cs) = takeT Tryd.prog 17 (cs.drop 1) := fi_agg (by kernel_rfl) cs
@[go_sem] theorem T121f2p (k g off) : fieldAddrA Tryd.prog 121 2 (.ptr k g off) = some (.ptr k g (off + 2)) := fa_ptr (s := 0) (ft := 17) (by kernel_rfl) (by kernel_rfl) k g off
@[go_sem] theorem T121f2q (cs) : fieldAddrA Tryd.prog 121 2 (.fptr cs) = some (.fptr (cs.drop 2)) := fa_fptr (s := 0) (ft := 17) (by kernel_rfl) (by kernel_rfl) cs
@[go_sem] theorem T121f2v (cs) : fieldA Tryd.prog 121 2 (.agg cs) = takeT Tryd.prog 17 (cs.drop 2) := fi_agg (by kernel_rfl) cs
@[go_sem] theorem T121f3p (k g off) : fieldAddrA Tryd.prog 121 3 (.ptr k g off) = some (.ptr k g (off + 3)) := fa_ptr (s := 0) (ft := 9) (by kernel_rfl) (by kernel_rfl) k g off
@[go_sem] theorem T121f3q (cs) : fieldAddrA Tryd.prog 121 3 (.fptr cs) = some (.fptr (cs.drop 3)) := fa_fptr (s := 0) (ft := 9) (by kernel_rfl) (by kernel_rfl) cs
@[go_sem] theorem T121f3v (cs) : fieldA Tryd.prog 121 3 (.agg cs) = takeT Tryd.prog 9 (cs.drop 3) := fi_agg (by kernel_rfl) cs
@[go_sem] theorem T121bd (xs) : aBuild Tryd.prog 121 xs = (fillA (fun i => ([(0, 1), (1, 1), (2, 1), (3, 1)] : List (Nat × Nat))[i]?) [AV.nilp, AV.nilp, AV.nilp, AV.str []] xs).map .agg := by kernel_rfl
@[go_sem] theorem T122s : tSize Tryd.prog 122 = some 0 := by kernel_rfl
@[go_sem] theorem T122a : tAgg Tryd.prog 122 = some true := by kernel_rfl
@[go_sem] theorem T122z : tZero Tryd.prog 122 = some [] := by kernel_rfl
@[go_sem] theorem T122ln (o x) : aLen Tryd.prog o 122 x = some (.int .i64 0) := ln_arr (e := 16) (by kernel_rfl) o x
@[go_sem] theorem T122ix1 (cs i) : aIndexAddr Tryd.prog 122 (.fptr cs) i = if 0 ≤ i ∧ i < 0 then some (.fptr (cs.drop (i.toNat * 1))) else none := ixa_fptr (n := 0) (e := 16) (s := 1) (by kernel_rfl) (by kernel_rfl) cs i
@[go_sem] theorem T122ix2 (k g off i) : aIndexAddr Tryd.prog 122 (.ptr k g off) i = if 0 ≤ i ∧ i < 0 then some (.ptr k g (off + i.toNat * 1)) else none := ixa_ptr (n := 0) (e := 16) (s := 1) (by kernel_rfl) (by kernel_rfl) k g off i
@[go_sem] theorem T122iv (cs i) : aIndex Tryd.prog 122 (.agg cs) i = if 0 ≤ i ∧ i < 0 then takeT Tryd.prog 16 (cs.drop (i.toNat * 1)) else none := ixv_agg (n := 0) (e := 16) (s := 1) (by kernel_rfl) (by kernel_rfl) cs i
@[go_sem] theorem T122bd (xs) : aBuild Tryd.prog 122 xs = (fillA (fun i => some (i * 1, 1)) [] xs).map .agg := bd_array (n := 0) (e := 16) (by kernel_rfl) (by kernel_rfl) (by kernel_rfl) xs
@[go_sem] theorem T123s : tSize Tryd.prog 123 = some 0 := by kernel_rfl
@[go_sem] theorem T123a : tAgg Tryd.prog 123 = some true := by kernel_rfl
@[go_sem] theorem T123z : tZero Tryd.prog 123 = some [] := by kernel_rfl
@[go_sem] theorem T123bd (xs) : aBuild Tryd.prog 123 xs = (fillA (fun i => ([(0, 0)] : List (Nat × Nat))[i]?) [] xs).map .agg := by kernel_rfl
@[go_sem] theorem T124s : tSize Tryd.prog 124 = some 0 := by kernel_rfl
@[go_sem] theorem T124a : tAgg Tryd.prog 124 = some true := by kernel_rfl
@[go_sem] theorem T124z : tZero Tryd.prog 124 = some [] := by kernel_rfl
@[go_sem] theorem T124bd (xs) : aBuild Tryd.prog 124 xs = (fillA (fun i => ([(0, 0)] : List (Nat × Nat))[i]?) [] xs).map .agg := by kernel_rfl
@[go_sem] theorem T126s : tSize Tryd.prog 126 = some 1 := by kernel_rfl
@[go_sem] theorem T126a : tAgg Tryd.prog 126 = some false := by kernel_rfl
@[go_sem] theorem T126z : tZero Tryd.prog 126 = some [AV.int .u8 0] := by kernel_rfl
@[go_sem] theorem T126u : Tryd.prog.underlying 126 = some (.int .u8) := by kernel_rfl
@[go_sem] theorem T127s : tSize Tryd.prog 127 = some 1 := by kernel_rfl
@[go_sem] theorem T127a : tAgg Tryd.prog 127 = some false := by kernel_rfl
@[go_sem] theorem T127z : tZero Tryd.prog 127 = some [AV.int .u8 0] := by kernel_rfl
@[go_sem] theorem T127u : Tryd.prog.underlying 127 = some (.int .u8) := by kernel_rfl
@[go_sem] theorem T129s : tSize Tryd.prog 129 = some 1 := by kernel_rfl
@[go_sem] theorem T129a : tAgg Tryd.prog 129 = some false := by kernel_rfl
@[go_sem] theorem T129z : tZero Tryd.prog 129 = some [AV.int .i32 0] := by kernel_rfl
@[go_sem] theorem T129u : Tryd.prog.underlying 129 = some (.int .i32) := by kernel_rfl
@[go_sem] theorem T130s : tSize Tryd.prog 130 = some 1 := by kernel_rfl
@[go_sem] theorem T130a : tAgg Tryd.prog 130 = some false := by kernel_rfl
@[go_sem] theorem T130z : tZero Tryd.prog 130 = some [AV.int .i32 0] := by kernel_rfl
@[go_sem] theorem T130u : Tryd.prog.underlying 130 = some (.int .i32) := by kernel_rfl
@[go_sem] theorem T131s : tSize Tryd.prog 131 = some 11 := by kernel_rfl
@[go_sem] theorem T131a : tAgg Tryd.prog 131 = some true := by kernel_rfl
@[go_sem] theorem T131f0p (k g off) : fieldAddrA Tryd.prog 131 0 (.ptr k g off) = some (.ptr k g (off + 0)) := fa_ptr (s := 0) (ft := 12) (by kernel_rfl) (by kernel_rfl) k g off
@[go_sem] theorem T131f0q (cs) : fieldAddrA Tryd.prog 131 0 (.fptr cs) = some (.fptr (cs.drop 0)) := fa_fptr (s := 0) (ft := 12) (by kernel_rfl) (by kernel_rfl) cs
@[go_sem] theorem T131f0v (cs) : fieldA Tryd.prog 131 0 (.agg cs) = takeT Tryd.prog 12 (cs.drop 0) := fi_agg (by kernel_rfl) cs
@[go_sem] theorem T131f1p (k g off) : fieldAddrA Tryd.prog 131 1 (.ptr k g off) = some (.ptr k g (off + 1)) := fa_ptr (s := 0) (ft := 12) (by kernel_rfl) (by kernel_rfl) k g off
@[go_sem] theorem T131f1q (cs) : fieldAddrA Tryd.prog 131 1 (.fptr cs) = some (.fptr (cs.drop 1)) := fa_fptr (s := 0) (ft := 12) (by kernel_rfl) (by kernel_rfl) cs
@[go_sem] theorem T131f1v (cs) : fieldA Tryd.prog 131 1 (.agg cs) = takeT Tryd.prog 12 (cs.drop 1) := fi_agg (by kernel_rfl) cs
@[go_sem] theorem T131f2p (k g off) : fieldAddrA Tryd.prog 131 2 (.ptr k g off) = some (.ptr k g (off + 2)) := fa_ptr (s := 0) (ft := 114) (by kernel_rfl) (by kernel_rfl) k g off
@[go_sem] theorem T131f2q (cs) : fieldAddrA Tryd.prog 131 2 (.fptr cs) = some (.fptr (cs.drop 2)) := fa_fptr (s := 0) (ft := 114) (by kernel_rfl) (by kernel_rfl) cs
@[go_sem] theorem T131f2v (cs) : fieldA Tryd.prog 131 2 (.agg cs) = takeT Tryd.prog 114 (cs.drop 2) := fi_agg (by kernel_rfl) cs
@[go_sem] theorem T131f3p (k g off) : fieldAddrA Tryd.prog 131 3 (.ptr k g off) = some (.ptr k g (off + 3)) := fa_ptr (s := 0) (ft := 126) (by kernel_rfl) (by kernel_rfl) k g off
@[go_sem] theorem T131f3q (cs) : fieldAddrA Tryd.prog 131 3 (.fptr cs) = some (.fptr (cs.drop 3)) := fa_fptr (s := 0) (ft := 126) (by kernel_rfl) (by kernel_rfl) cs
@[go_sem] theorem T131f3v (cs) : fieldA Tryd.prog 131 3 (.agg cs) = takeT Tryd.prog 126 (cs.drop 3) := fi_agg (by kernel_rfl) cs
@[go_sem] theorem T131f4p (k g off) : fieldAddrA Tryd.prog 131 4 (.ptr k g off) = some (.ptr k g (off + 4)) := fa_ptr (s := 0) (ft := 5) (by kernel_rfl) (by kernel_rfl) k g off
@[go_sem] theorem T131f4q (cs) : fieldAddrA Tryd.prog 131 4 (.fptr cs) = some (.fptr (cs.drop 4)) := fa_fptr (s := 0) (ft := 5) (by kernel_rfl) (by kernel_rfl) cs
@[go_sem] theorem T131f4v (cs) : fieldA Tryd.prog 131 4 (.agg cs) = takeT Tryd.prog 5 (cs.drop 4) := fi_agg (by kernel_rfl) cs
@[go_sem] theorem T131f5p (k g off) : fieldAddrA Tryd.prog 131 5 (.ptr k g off) = some (.ptr k g (off + 5)) := fa_ptr (s := 0) (ft := 5) (by kernel_rfl) (by kernel_rfl) k g off
@[go_sem] theorem T131f5q (cs) : fieldAddrA Tryd.prog 131 5 (.fptr cs) = some (.fptr (cs.drop 5)) := fa_fptr (s := 0) (ft := 5) (by kernel_rfl) (by kernel_rfl) cs
@[go_sem] theorem T131f5v (cs) : fieldA Tryd.prog 131 5 (.agg cs) = takeT Tryd.prog 5 (cs.drop 5) := fi_agg (by kernel_rfl) cs
@[go_sem] theorem T131f6p (k g off) : fieldAddrA Tryd.prog 131 6 (.ptr k g off) = some (.ptr k g (off + 6)) := fa_ptr (s := 0) (ft := 127) (by kernel_rfl) (by kernel_rfl) k g off
@[go_sem] theorem T131f6q (cs) : fieldAddrA Tryd.prog 131 6 (.fptr cs) = some (.fptr (cs.drop 6)) := fa_fptr (s := 0) (ft := 127) (by kernel_rfl) (by kernel_rfl) cs
@[go_sem] theorem T131f6v (cs) : fieldA Tryd.prog 131 6 (.agg cs) = takeT Tryd.prog 127 (cs.drop 6) := fi_agg (by kernel_rfl) cs
@[go_sem] theorem T131f7p (k g off) : fieldAddrA Tryd.prog 131 7 (.ptr k g off) = some (.ptr k g (off + 7)) := fa_ptr (s := 0) (ft := 128) (by kernel_rfl) (by kernel_rfl) k g off
@[go_sem] theorem T131f7q (cs) : fieldAddrA Tryd.prog 131 7 (.fptr cs) = some (.fptr (cs.drop 7)) := fa_fptr (s := 0) (ft := 128) (by kernel_rfl) (by kernel_rfl) cs
@[go_sem] theorem T131f7v (cs) : fieldA Tryd.prog 131 7 (.agg cs) = takeT Tryd.prog 128 (cs.drop 7) := fi_agg (by kernel_rfl) cs
@[go_sem] theorem T131f8p (k g off) : fieldAddrA Tryd.prog 131 8 (.ptr k g off) = some (.ptr k g (off + 8)) := fa_ptr (s := 0) (ft := 99) (by kernel_rfl) (by kernel_rfl) k g off
@[go_sem] theorem T131f8q (cs) : fieldAddrA Tryd.prog 131 8 (.fptr cs) = some (.fptr (cs.drop 8)) := fa_fptr (s := 0) (ft := 99) (by kernel_rfl) (by kernel_rfl) cs
@[go_sem] theorem T131f8v (cs) : fieldA Tryd.prog 131 8 (.agg cs) = takeT Tryd.prog 99 (cs.drop 8) := fi_agg (by kernel_rfl) cs
@[go_sem] theorem T131f9p (k g off) : fieldAddrA Tryd.prog 131 9 (.ptr k g off) = some (.ptr k g (off + 9)) := fa_ptr (s := 0) (ft := 129) (by kernel_rfl) (by kernel_rfl) k g off
@[go_sem] theorem T131f9q (cs) : fieldAddrA Tryd.prog 131 9 (.fptr cs) = some (.fptr (cs.drop 9)) := fa_fptr (s := 0) (ft := 129) (by kernel_rfl) (by kernel_rfl) cs
@[go_sem] theorem T131f9v (cs) : fieldA Tryd.prog 131 9 (.agg cs) = takeT Tryd.prog 129 (cs.drop 9) := fi_agg (by kernel_rfl) cs
@[go_sem] theorem T131f10p (k g off) : fieldAddrA Tryd.prog 131 10 (.ptr k g off) = some (.ptr k g (off + 10)) := fa_ptr (s := 0) (ft := 130) (by kernel_rfl) (by kernel_rfl) k g off
@[go_sem] theorem T131f10q (cs) : fieldAddrA Tryd.prog 131 10 (.fptr cs) = some (.fptr (cs.drop 10)) := fa_fptr (s := 0) (ft := 130) (by kernel_rfl) (by kernel_rfl) cs
@[go_sem] theorem T131f10v (cs) : fieldA Tryd.prog 131 10 (.agg cs) = takeT Tryd.prog 130 (cs.drop 10) := fi_agg (by kernel_rfl) cs
@[go_sem] theorem T132s : tSize Tryd.prog 132 = some 11 := by kernel_rfl
@[go_sem] theorem T132a : tAgg Tryd.prog 132 = some true := by kernel_rfl
@[go_sem] theorem T132f0p (k g off) : fieldAddrA Tryd.prog 132 0 (.ptr k g off) = some (.ptr k g (off + 0)) := fa_ptr (s := 0) (ft := 12) (by kernel_rfl) (by kernel_rfl) k g off
@[go_sem] theorem T132f0q (cs) : fieldAddrA Tryd.prog 132 0 (.fptr cs) = some (.fptr (cs.drop 0)) := fa_fptr (s := 0) (ft := 12) (by kernel_rfl) (by kernel_rfl) cs
@[go_sem] theorem T132f0v (cs) : fieldA Tryd.prog 132 0 (.agg cs) = takeT Tryd.prog 12 (cs.drop 0) := fi_agg (by kernel_rfl) cs
@[go_sem] theorem T132f1p (k g off) : fieldAddrA Tryd.prog 132 1 (.ptr k g off) = some (.ptr k g (off + 1)) := fa_ptr (s := 0) (ft := 12) (by kernel_rfl) (by kernel_rfl) k g off
@[go_sem] theorem T132f1q (cs) : fieldAddrA Tryd.prog 132 1 (.fptr cs) = some (.fptr (cs.drop 1)) := fa_fptr (s := 0) (ft := 12) (by kernel_rfl) (by kernel_rfl) cs
@[go_sem] theorem T132f1v (cs) : fieldA Tryd.prog 132 1 (.agg cs) = takeT Tryd.prog 12 (cs.drop 1) := fi_agg (by kernel_rfl) cs
@[go_sem] theorem T132f2p (k g off) : fieldAddrA Tryd.prog 132 2 (.ptr k g off) = some (.ptr k g (off + 2)) := fa_ptr (s := 0) (ft := 114) (by kernel_rfl) (by kernel_rfl) k g off
@[go_sem] theorem T132f2q (cs) : fieldAddrA Tryd.prog 132 2 (.fptr cs) = some (.fptr (cs.drop 2)) := fa_fptr (s := 0) (ft := 114) (by kernel_rfl) (by kernel_rfl) cs
@[go_sem] theorem T132f2v (cs) : fieldA Tryd.prog 132 2 (.agg cs) = takeT Tryd.prog 114 (cs.drop 2) := fi_agg (by kernel_rfl) cs
@[go_sem] theorem T132f3p (k g off) : fieldAddrA Tryd.prog 132 3 (.ptr k g off) = some (.ptr k g (off + 3)) := fa_ptr (s := 0) (ft := 126) (by kernel_rfl) (by kernel_rfl) k g off
@[go_sem] theorem T132f3q (cs) : fieldAddrA Tryd.prog 132 3 (.fptr cs) = some (.fptr (cs.drop 3)) := fa_fptr (s := 0) (ft := 126) (by kernel_rfl) (by kernel_rfl) cs
@[go_sem] theorem T132f3v (cs) : fieldA Tryd.prog 132 3 (.agg cs) = takeT Tryd.prog 126 (cs.drop 3) := fi_agg (by kernel_rfl) cs
@[go_sem] theorem T132f4p (k g off) : fieldAddrA Tryd.prog 132 4 (.ptr k g off) = some (.ptr k g (off + 4)) := fa_ptr (s := 0) (ft := 5) (by kernel_rfl) (by kernel_rfl) k g off
@[go_sem] theorem T132f4q (cs) : fieldAddrA Tryd.prog 132 4 (.fptr cs) = some (.fptr (cs.drop 4)) := fa_fptr (s := 0) (ft := 5) (by kernel_rfl) (by kernel_rfl) cs
@[go_sem] theorem T132f4v (cs) : fieldA Tryd.prog 132 4 (.agg cs) = takeT Tryd.prog 5 (cs.drop 4) := fi_agg (by kernel_rfl) cs
@[go_sem] theorem T132f5p (k g off) : fieldAddrA Tryd.prog 132 5 (.ptr k g off) = some (.ptr k g (off + 5)) := fa_ptr (s := 0) (ft := 5) (by kernel_rfl) (by kernel_rfl) k g off
@[go_sem] theorem T132f5q (cs) : fieldAddrA Tryd.prog 132 5 (.fptr cs) = some (.fptr (cs.drop 5)) := fa_fptr (s := 0) (ft := 5) (by kernel_rfl) (by kernel_rfl) cs
@[go_sem] theorem T132f5v (cs) : fieldA Tryd.prog 132 5 (.agg cs) = takeT Tryd.prog 5 (cs.drop 5) := fi_agg (by kernel_rfl) cs
@[go_sem] theorem T132f6p (k g off) : fieldAddrA Tryd.prog 132 6 (.ptr k g off) = some (.ptr k g (off + 6)) := fa_ptr (s := 0) (ft := 127) (by kernel_rfl) (by kernel_rfl) k g off
@[go_sem] theorem T132f6q (cs) : fieldAddrA Tryd.prog 132 6 (.fptr cs) = some (.fptr (cs.drop 6)) := fa_fptr (s := 0) (ft := 127) (by kernel_rfl) (by kernel_rfl) cs
@[go_sem] theorem T132f6v (cs) : fieldA Tryd.prog 132 6 (.agg cs) = takeT Tryd.prog 127 (cs.drop 6) := fi_agg (by kernel_rfl) cs
@[go_sem] theorem T132f7p (k g off) : fieldAddrA Tryd.prog 132 7 (.ptr k g off) = some (.ptr k g (off + 7)) := fa_ptr (s := 0) (ft := 128) (by kernel_rfl) (by kernel_rfl) k g off
@[go_sem] theorem T132f7q (cs) : fieldAddrA Tryd.prog 132 7 (.fptr cs) = some (.fptr (cs.drop 7)) := fa_fptr (s := 0) (ft := 128) (by kernel_rfl) (by kernel_rfl) cs
@[go_sem] theorem T132f7v (cs) : fieldA Tryd.prog 132 7 (.agg cs) = takeT Tryd.prog 128 (cs.drop 7) := fi_agg (by kernel_rfl) cs
@[go_sem] theorem T132f8p (k g off) : fieldAddrA Tryd.prog 132 8 (.ptr k g off) = some (.ptr k g (off + 8)) := fa_ptr (s := 0) (ft := 99) (by kernel_rfl) (by kernel_rfl) k g off
@[go_sem] theorem T132f8q (cs) : fieldAddrA Tryd.prog 132 8 (.fptr cs) = some (.fptr (cs.drop 8)) := fa_fptr (s := 0) (ft := 99) (by kernel_rfl) (by kernel_rfl) cs
@[go_sem] theorem T132f8v (cs) : fieldA Tryd.prog 132 8 (.agg cs) = takeT Tryd.prog 99 (cs.drop 8) := fi_agg (by kernel_rfl) cs
@[go_sem] theorem T132f9p (k g off) : fieldAddrA Tryd.prog 132 9 (.ptr k g off) = some (.ptr k g (off + 9)) := fa_ptr (s := 0) (ft := 129) (by kernel_rfl) (by kernel_rfl) k g off
@[go_sem] theorem T132f9q (cs) : fieldAddrA Tryd.prog 132 9 (.fptr cs) = some (.fptr (cs.drop 9)) := fa_fptr (s := 0) (ft := 129) (by kernel_rfl) (by kernel_rfl) cs
@[go_sem] theorem T132f9v (cs) : fieldA Tryd.prog 132 9 (.agg cs) = takeT Tryd.prog 129 (cs.drop 9) := fi_agg (by kernel_rfl) cs
@[go_sem] theorem T132f10p (k g off) : fieldAddrA Tryd.prog 132 10 (.ptr k g off) = some (.ptr k g (off + 10)) := fa_ptr (s := 0) (ft := 130) (by kernel_rfl) (by kernel_rfl) k g off
@[go_sem] theorem T132f10q (cs) : fieldAddrA Tryd.prog 132 10 (.fptr cs) = some (.fptr (cs.drop 10)) := fa_fptr (s := 0) (ft := 130) (by kernel_rfl) (by kernel_rfl) cs
@[go_sem] theorem T132f10v (cs) : fieldA Tryd.prog 132 10 (.agg cs) = takeT Tryd.prog 130 (cs.drop 10) := fi_agg (by kernel_rfl) cs
@[go_sem] theorem C2_3 (tg k n o nx) : aConvert Tryd.prog tg 2 3 (.int k n) ⟨o, nx⟩ = some (.int .i64 (IntKind.wrap .i64 n), ⟨o, nx⟩) := cv_int (td := .int .i64) (by kernel_rfl) (by kernel_rfl) tg k n o nx
@[go_sem] theorem C2_5 (tg k n o nx) : aConvert Tryd.prog tg 2 5 (.int k n) ⟨o, nx⟩ = some (.int .u8 (IntKind.wrap .u8 n), ⟨o, nx⟩) := cv_int (td := .int .i64) (by kernel_rfl) (by kernel_rfl) tg k n o nx
@[go_sem] theorem C2_34 (tg k n o nx) : aConvert Tryd.prog tg 2 34 (.int k n) ⟨o, nx⟩ = some (.int .i64 (IntKind.wrap .i64 n), ⟨o, nx⟩) := cv_int (td := .int .i64) (by kernel_rfl) (by kernel_rfl) tg k n o nx
@[go_sem] theorem C2_50 (tg k n o nx) : aConvert Tryd.prog tg 2 50 (.int k n) ⟨o, nx⟩ = some (.int .u64 (IntKind.wrap .u64 n), ⟨o, nx⟩) := cv_int (td := .int .i64) (by kernel_rfl) (by kernel_rfl) tg k n o nx
@[go_sem] theorem C2_107 (tg k n o nx) : aConvert Tryd.prog tg 2 107 (.int k n) ⟨o, nx⟩ = some (.int .u64 (IntKind.wrap .u64 n), ⟨o, nx⟩) := cv_int (td := .int .i64) (by kernel_rfl) (by kernel_rfl) tg k n o nx
@[go_sem] theorem C2_114 (tg k n o nx) : aConvert Tryd.prog tg 2 114 (.int k n) ⟨o, nx⟩ = some (.int .u32 (IntKind.wrap .u32 n), ⟨o, nx⟩) := cv_int (td := .int .i64) (by kernel_rfl) (by kernel_rfl) tg k n o nx
@[go_sem] theorem C3_2 (tg k n o nx) : aConvert Tryd.prog tg 3 2 (.int k n) ⟨o, nx⟩ = some (.int .i64 (IntKind.wrap .i64 n), ⟨o, nx⟩) := cv_int (td := .int .i64) (by kernel_rfl) (by kernel_rfl) tg k n o nx
@[go_sem] theorem C3_5 (tg k n o nx) : aConvert Tryd.prog tg 3 5 (.int k n) ⟨o, nx⟩ = some (.int .u8 (IntKind.wrap .u8 n), ⟨o, nx⟩) := cv_int (td := .int .i64) (by kernel_rfl) (by kernel_rfl) tg k n o nx
@[go_sem] theorem C3_34 (tg k n o nx) : aConvert Tryd.prog tg 3 34 (.int k n) ⟨o, nx⟩ = some (.int .i64 (IntKind.wrap .i64 n), ⟨o, nx⟩) := cv_int (td := .int .i64) (by kernel_rfl) (by kernel_rfl) tg k n o nx
@[go_sem] theorem C3_50 (tg k n o nx) : aConvert Tryd.prog tg 3 50 (.int k n) ⟨o, nx⟩ = some (.int .u64 (IntKind.wrap .u64 n), ⟨o, nx⟩) := cv_int (td := .int .i64) (by kernel_rfl) (by kernel_rfl) tg k n o nx
@[go_sem] theorem C3_107 (tg k n o nx) : aConvert Tryd.prog tg 3 107 (.int k n) ⟨o, nx⟩ = some (.int .u64 (IntKind.wrap .u64 n), ⟨o, nx⟩) := cv_int (td := .int .i64) (by kernel_rfl) (by kernel_rfl) tg k n o nx
@[go_sem] theorem C3_114 (tg k n o nx) : aConvert Tryd.prog tg 3 114 (.int k n) ⟨o, nx⟩ = some (.int .u32 (IntKind.wrap .u32 n), ⟨o, nx⟩) := cv_int (td := .int .i64) (by kernel_rfl) (by kernel_rfl) tg k n o nx
@[go_sem] theorem C5_2 (tg k n o nx) : aConvert Tryd.prog tg 5 2 (.int k n) ⟨o, nx⟩ = some (.int .i64 (IntKind.wrap .i64 n), ⟨o, nx⟩) := cv_int (td := .int .u8) (by kernel_rfl) (by kernel_rfl) tg k n o nx
@[go_sem] theorem C5_3 (tg k n o nx) : aConvert Tryd.prog tg 5 3 (.int k n) ⟨o, nx⟩ = some (.int .i64 (IntKind.wrap .i64 n), ⟨o, nx⟩) := cv_int (td := .int .u8) (by kernel_rfl) (by kernel_rfl) tg k n o nx
@[go_sem] theorem C5_34 (tg k n o nx) : aConvert Tryd.prog tg 5 34 (.int k n) ⟨o, nx⟩ = some (.int .i64 (IntKind.wrap .i64 n), ⟨o, nx⟩) := cv_int (td := .int .u8) (by kernel_rfl) (by kernel_rfl) tg k n o nx
@[go_sem] theorem C5_50 (tg k n o nx) : aConvert Tryd.prog tg 5 50 (.int k n) ⟨o, nx⟩ = some (.int .u64 (IntKind.wrap .u64 n), ⟨o, nx⟩) := cv_int (td := .int .u8) (by kernel_rfl) (by kernel_rfl) tg k n o nx
@[go_sem] theorem C5_107 (tg k n o nx) : aConvert Tryd.prog tg 5 107 (.int k n) ⟨o, nx⟩ = some (.int .u64 (IntKind.wrap .u64 n), ⟨o, nx⟩) := cv_int (td := .int .u8) (by kernel_rfl) (by kernel_rfl) tg k n o nx
@[go_sem] theorem C5_114 (tg k n o nx) : aConvert Tryd.prog tg 5 114 (.int k n) ⟨o, nx⟩ = some (.int .u32 (IntKind.wrap .u32 n), ⟨o, nx⟩) := cv_int (td := .int .u8) (by kernel_rfl) (by kernel_rfl) tg k n o nx
@[go_sem] theorem C34_2 (tg k n o nx) : aConvert Tryd.prog tg 34 2 (.int k n) ⟨o, nx⟩ = some (.int .i64 (IntKind.wrap .i64 n), ⟨o, nx⟩) := cv_int (td := .int .i64) (by kernel_rfl) (by kernel_rfl) tg k n o nx
@[go_sem] theorem C34_3 (tg k n o nx) : aConvert Tryd.prog tg 34 3 (.int k n) ⟨o, nx⟩ = some (.int .i64 (IntKind.wrap .i64 n), ⟨o, nx⟩) := cv_int (td := .int .i64) (by kernel_rfl) (by kernel_rfl) tg k n o nx
@[go_sem] theorem C34_5 (tg k n o nx) : aConvert Tryd.prog tg 34 5 (.int k n) ⟨o, nx⟩ = some (.int .u8 (IntKind.wrap .u8 n), ⟨o, nx⟩) := cv_int (td := .int .i64) (by kernel_rfl) (by kernel_rfl) tg k n o nx
@[go_sem] theorem C34_50 (tg k n o nx) : aConvert Tryd.prog tg 34 50 (.int k n) ⟨o, nx⟩ = some (.int .u64 (IntKind.wrap .u64 n), ⟨o, nx⟩) := cv_int (td := .int .i64) (by kernel_rfl) (by kernel_rfl) tg k n o nx
@[go_sem] theorem C34_107 (tg k n o nx) : aConvert Tryd.prog tg 34 107 (.int k n) ⟨o, nx⟩ = some (.int .u64 (IntKind.wrap .u64 n), ⟨o, nx⟩) := cv_int (td := .int .i64) (by kernel_rfl) (by kernel_rfl) tg k n o nx
@[go_sem] theorem C34_114 (tg k n o nx) : aConvert Tryd.prog tg 34 114 (.int k n) ⟨o, nx⟩ = some (.int .u32 (IntKind.wrap .u32 n), ⟨o, nx⟩) := cv_int (td := .int .i64) (by kernel_rfl) (by kernel_rfl) tg k n o nx
@[go_sem] theorem C50_2 (tg k n o nx) : aConvert Tryd.prog tg 50 2 (.int k n) ⟨o, nx⟩ = some (.int .i64 (IntKind.wrap .i64 n), ⟨o, nx⟩) := cv_int (td := .int .u64) (by kernel_rfl) (by kernel_rfl) tg k n o nx
@[go_sem] theorem C50_3 (tg k n o nx) : aConvert Tryd.prog tg 50 3 (.int k n) ⟨o, nx⟩ = some (.int .i64 (IntKind.wrap .i64 n), ⟨o, nx⟩) := cv_int (td := .int .u64) (by kernel_rfl) (by kernel_rfl) tg k n o nx
@[go_sem] theorem C50_5 (tg k n o nx) : aConvert Tryd.prog tg 50 5 (.int k n) ⟨o, nx⟩ = some (.int .u8 (IntKind.wrap .u8 n), ⟨o, nx⟩) := cv_int (td := .int .u64) (by kernel_rfl) (by kernel_rfl) tg k n o nx
@[go_sem] theorem C50_34 (tg k n o nx) : aConvert Tryd.prog tg 50 34 (.int k n) ⟨o, nx⟩ = some (.int .i64 (IntKind.wrap .i64 n), ⟨o, nx⟩) := cv_int (td := .int .u64) (by kernel_rfl) (by kernel_rfl) tg k n o nx
@[go_sem] theorem C50_107 (tg k n o nx) : aConvert Tryd.prog tg 50 107 (.int k n) ⟨o, nx⟩ = some (.int .u64 (IntKind.wrap .u64 n), ⟨o, nx⟩) := cv_int (td := .int .u64) (by kernel_rfl) (by kernel_rfl) tg k n o nx
@[go_sem] theorem C50_114 (tg k n o nx) : aConvert Tryd.prog tg 50 114 (.int k n) ⟨o, nx⟩ = some (.int .u32 (IntKind.wrap .u32 n), ⟨o, nx⟩) := cv_int (td := .int .u64) (by kernel_rfl) (by kernel_rfl) tg k n o nx
@[go_sem] theorem C107_2 (tg k n o nx) : aConvert Tryd.prog tg 107 2 (.int k n) ⟨o, nx⟩ = some (.int .i64 (IntKind.wrap .i64 n), ⟨o, nx⟩) := cv_int (td := .int .u64) (by kernel_rfl) (by kernel_rfl) tg k n o nx
@[go_sem] theorem C107_3 (tg k n o nx) : aConvert Tryd.prog tg 107 3 (.int k n) ⟨o, nx⟩ = some (.int .i64 (IntKind.wrap .i64 n), ⟨o, nx⟩) := cv_int (td := .int .u64) (by kernel_rfl) (by kernel_rfl) tg k n o nx
@[go_sem] theorem C107_5 (tg k n o nx) : aConvert Tryd.prog tg 107 5 (.int k n) ⟨o, nx⟩ = some (.int .u8 (IntKind.wrap .u8 n), ⟨o, nx⟩) := cv_int (td := .int .u64) (by kernel_rfl) (by kernel_rfl) tg k n o nx
@[go_sem] theorem C107_34 (tg k n o nx) : aConvert Tryd.prog tg 107 34 (.int k n) ⟨o, nx⟩ = some (.int .i64 (IntKind.wrap .i64 n), ⟨o, nx⟩) := cv_int (td := .int .u64) (by kernel_rfl) (by kernel_rfl) tg k n o nx
@[go_sem] theorem C107_50 (tg k n o nx) : aConvert Tryd.prog tg 107 50 (.int k n) ⟨o, nx⟩ = some (.int .u64 (IntKind.wrap .u64 n), ⟨o, nx⟩) := cv_int (td := .int .u64) (by kernel_rfl) (by kernel_rfl) tg k n o nx
@[go_sem] theorem C107_114 (tg k n o nx) : aConvert Tryd.prog tg 107 114 (.int k n) ⟨o, nx⟩ = some (.int .u32 (IntKind.wrap .u32 n), ⟨o, nx⟩) := cv_int (td := .int .u64) (by kernel_rfl) (by kernel_rfl) tg k n o nx
@[go_sem] theorem C114_2 (tg k n o nx) : aConvert Tryd.prog tg 114 2 (.int k n) ⟨o, nx⟩ = some (.int .i64 (IntKind.wrap .i64 n), ⟨o, nx⟩) := cv_int (td := .int .u32) (by kernel_rfl) (by kernel_rfl) tg k n o nx
@[go_sem] theorem C114_3 (tg k n o nx) : aConvert Tryd.prog tg 114 3 (.int k n) ⟨o, nx⟩ = some (.int .i64 (IntKind.wrap .i64 n), ⟨o, nx⟩) := cv_int (td := .int .u32) (by kernel_rfl) (by kernel_rfl) tg k n o nx
@[go_sem] theorem C114_5 (tg k n o nx) : aConvert Tryd.prog tg 114 5 (.int k n) ⟨o, nx⟩ = some (.int .u8 (IntKind.wrap .u8 n), ⟨o, nx⟩) := cv_int (td := .int .u32) (by kernel_rfl) (by kernel_rfl) tg k n o nx
@[go_sem] theorem C114_34 (tg k n o nx) : aConvert Tryd.prog tg 114 34 (.int k n) ⟨o, nx⟩ = some (.int .i64 (IntKind.wrap .i64 n), ⟨o, nx⟩) := cv_int (td := .int .u32) (by kernel_rfl) (by kernel_rfl) tg k n o nx
@[go_sem] theorem C114_50 (tg k n o nx) : aConvert Tryd.prog tg 114 50 (.int k n) ⟨o, nx⟩ = some (.int .u64 (IntKind.wrap .u64 n), ⟨o, nx⟩) := cv_int (td := .int .u32) (by kernel_rfl) (by kernel_rfl) tg k n o nx
@[go_sem] theorem C114_107 (tg k n o nx) : aConvert Tryd.prog tg 114 107 (.int k n) ⟨o, nx⟩ = some (.int .u64 (IntKind.wrap .u64 n), ⟨o, nx⟩) := cv_int (td := .int .u32) (by kernel_rfl) (by kernel_rfl) tg k n o nx
/-- How functions are called: on data, with a number or a truth value back; on data, with data back; on the caller's memory. -/
def md0 (f : FuncId) : Mode := if f ∈ [14, 28, 17, 68, 13, 23, 25, 26, 24, 15, 27, 55, 61, 67, 73, 54, 37, 38, 48, 49, 47, 56, 44, 45, 53, 20, 29, 30, 21, 52] then .ext true else if f ∈ [16, 31, 46, 19, 18, 35, 41, 22] then .ext false else if f ∈ [43, 69, 70, 63, 64, 57, 51, 42] then .raw true else .raw false
@[go_sem] theorem M14 : md0 14 = .ext true := rfl
@[go_sem] theorem M16 : md0 16 = .ext false := rfl
@[go_sem] theorem M28 : md0 28 = .ext true := rfl
@[go_sem] theorem M17 : md0 17 = .ext true := rfl
@[go_sem] theorem M31 : md0 31 = .ext false := rfl
@[go_sem] theorem M46 : md0 46 = .ext false := rfl
@[go_sem] theorem M19 : md0 19 = .ext false := rfl
@[go_sem] theorem M68 : md0 68 = .ext true := rfl
@[go_sem] theorem M13 : md0 13 = .ext true := rfl
@[go_sem] theorem M18 : md0 18 = .ext false := rfl
@[go_sem] theorem M23 : md0 23 = .ext true := rfl
@[go_sem] theorem M25 : md0 25 = .ext true := rfl
@[go_sem] theorem M26 : md0 26 = .ext true := rfl
@[go_sem] theorem M24 : md0 24 = .ext true := rfl
@[go_sem] theorem M15 : md0 15 = .ext true := rfl
@[go_sem] theorem M27 : md0 27 = .ext true := rfl
@[go_sem] theorem M55 : md0 55 = .ext true := rfl
@[go_sem] theorem M61 : md0 61 = .ext true := rfl
@[go_sem] theorem M67 : md0 67 = .ext true := rfl
@[go_sem] theorem M73 : md0 73 = .ext true := rfl
@[go_sem] theorem M54 : md0 54 = .ext true := rfl
@[go_sem] theorem M35 : md0 35 = .ext false := rfl
@[go_sem] theorem M37 : md0 37 = .ext true := rfl
@[go_sem] theorem M41 : md0 41 = .ext false := rfl
@[go_sem] theorem M38 : md0 38 = .ext true := rfl
@[go_sem] theorem M48 : md0 48 = .ext true := rfl
@[go_sem] theorem M49 : md0 49 = .ext true := rfl
@[go_sem] theorem M47 : md0 47 = .ext true := rfl
@[go_sem] theorem M33 : md0 33 = .raw false := rfl
@[go_sem] theorem M34 : md0 34 = .raw false := rfl
@[go_sem] theorem M40 : md0 40 = .raw false := rfl
@[go_sem] theorem M50 : md0 50 = .raw false := rfl
@[go_sem] theorem M36 : md0 36 = .raw false := rfl
@[go_sem] theorem M39 : md0 39 = .raw false := rfl
@[go_sem] theorem M32 : md0 32 = .raw false := rfl
@[go_sem] theorem M56 : md0 56 = .ext true := rfl
@[go_sem] theorem M44 : md0 44 = .ext true := rfl
@[go_sem] theorem M45 : md0 45 = .ext true := rfl
@[go_sem] theorem M53 : md0 53 = .ext true := rfl
@[go_sem] theorem M20 : md0 20 = .ext true := rfl
@[go_sem] theorem M29 : md0 29 = .ext true := rfl
@[go_sem] theorem M30 : md0 30 = .ext true := rfl
@[go_sem] theorem M21 : md0 21 = .ext true := rfl
@[go_sem] theorem M22 : md0 22 = .ext false := rfl
@[go_sem] theorem M52 : md0 52 = .ext true := rfl
@[go_sem] theorem M43 : md0 43 = .raw true := rfl
@[go_sem] theorem M69 : md0 69 = .raw true := rfl
@[go_sem] theorem M70 : md0 70 = .raw true := rfl
@[go_sem] theorem M63 : md0 63 = .raw true := rfl
@[go_sem] theorem M64 : md0 64 = .raw true := rfl
@[go_sem] theorem M57 : md0 57 = .raw true := rfl
@[go_sem] theorem M51 : md0 51 = .raw true := rfl
@[go_sem] theorem M42 : md0 42 = .raw true := rfl
end Go.Proofs.YtmcbfbpdfbcakaaDoor.A
/- A, part 30: slices that a call makes, rows of them; pairs and steps in cells; a contract out of a walk. -/
namespace Go.Proofs.YtmcbfbpdfbcakaaDoor.A
open Go

/-! ### cells of pairs, of steps -/
def cP (l : List (Int × Int)) : List AV := l.flatMap fun p => [.int .i64 p.1, .int .i64 p.2]
def cS (l : List (Int × Int × Int)) : List AV := l.flatMap fun p => [.int .i64 p.1, .int .i64 p.2.1, .int .i64 p.2.2]
@[go_sem] theorem cP_nil : cP [] = [] := rfl
@[go_sem] theorem cS_nil : cS [] = [] := rfl
theorem cP_app (x y) : cP (x ++ y) = cP x ++ cP y := by simp [cP]
theorem cS_app (x y) : cS (x ++ y) = cS x ++ cS y := by simp [cS]
theorem cP_snoc (l : List (Int × Int)) (f t : Int) : cP l ++ [.int .i64 f, .int .i64 t] = cP (l ++ [(f, t)]) := by simp [cP]
theorem cS_snoc (l : List (Int × Int × Int)) (f t s : Int) : cS l ++ [.int .i64 f, .int .i64 t, .int .i64 s] = cS (l ++ [(f, t, s)]) := by simp [cS]
@[go_sem] theorem cP_length (l) : (cP l).length = l.length * 2 := by
  induction l with
  | nil => rfl
  | cons p l ih => simp only [cP, List.flatMap_cons, List.length_append, List.length_cons, List.length_nil] at ih ⊢; omega
@[go_sem] theorem cS_length (l) : (cS l).length = l.length * 3 := by
  induction l with
  | nil => rfl
  | cons p l ih => simp only [cS, List.flatMap_cons, List.length_append, List.length_cons, List.length_nil] at ih ⊢; omega
@[go_sem] theorem cP_ok (l) : (cP l).all cellOk = true := by
  induction l with
  | nil => rfl
  | cons p l ih => simpa [cP, cellOk] using ih
@[go_sem] theorem cS_ok (l) : (cS l).all cellOk = true := by
  induction l with
  | nil => rfl
  | cons p l ih => simpa [cS, cellOk] using ih
@[go_sem] theorem view_cP (o d l) : (cP l).map (view o d) = cP l := by
  induction l with
  | nil => rfl
  | cons p l ih => simpa [cP, view_int] using ih
@[go_sem] theorem view_cS (o d l) : (cS l).map (view o d) = cS l := by
  induction l with
  | nil => rfl
  | cons p l ih => simpa [cS, view_int] using ih
@[go_sem] theorem tags_cP (o d l) : (cP l).flatMap (viewTags o d) = [] := by
  induction l with
  | nil => rfl
  | cons p l ih => simpa [cP, tags_int] using ih
@[go_sem] theorem tags_cS (o d l) : (cS l).flatMap (viewTags o d) = [] := by
  induction l with
  | nil => rfl
  | cons p l ih => simpa [cS, tags_int] using ih
theorem cP_at {l : List (Int × Int)} {i : Nat} (h : i < l.length) : (cP l).drop (i * 2) = .int .i64 (l.getD i (0, 0)).1 :: .int .i64 (l.getD i (0, 0)).2 :: cP (l.drop (i + 1)) := by
  induction l generalizing i with
  | nil => simp at h
  | cons p l ih =>
    cases i with
    | zero => rfl
    | succ i =>
      have : (i + 1) * 2 = i * 2 + 2 := by omega
      rw [this]
      have := ih (i := i) (by simpa using h)
      simpa [cP] using this
theorem cS_at {l : List (Int × Int × Int)} {i : Nat} (h : i < l.length) : (cS l).drop (i * 3) = .int .i64 (l.getD i (0, 0, 0)).1 :: .int .i64 (l.getD i (0, 0, 0)).2.1 :: .int .i64 (l.getD i (0, 0, 0)).2.2 :: cS (l.drop (i + 1)) := by
  induction l generalizing i with
  | nil => simp at h
  | cons p l ih =>
    cases i with
    | zero => rfl
    | succ i =>
      have : (i + 1) * 3 = i * 3 + 3 := by omega
      rw [this]
      have := ih (i := i) (by simpa using h)
      simpa [cS] using this
theorem cs_get {cs : List AV} {i s : Nat} (h : i < cs.length) : take1 false s (cs.drop i) = some (cs.getD i .nil) := by
  rw [take1_drop h]; simp [List.getD, h]
theorem splice_all {xs ys : List AV} (h : xs.length = ys.length) : splice xs 0 ys = ys := by rw [splice_zero, List.drop_eq_nil_of_le (by omega), List.append_nil]
theorem take_len {α : Type} {l : List α} {n : Nat} (h : l.length = n) : l.take n = l := by rw [← h]; exact List.take_length
theorem take_succ_getD {α : Type} {l : List α} {i : Nat} (h : i < l.length) (d : α) : l.take (i + 1) = l.take i ++ [l.getD i d] := by
  rw [List.take_add_one]; simp [List.getD, h]

@[go_sem] theorem cI_all (l) : (cI l).take l.length = cI l := take_len (by simp [cI])
@[go_sem] theorem cB_all (l) : (cB l).take l.length = cB l := take_len (by simp [cB])
@[go_sem] theorem cP_all (l) : (cP l).take (l.length * 2) = cP l := take_len (by simp [cP_length])
@[go_sem] theorem cS_all (l) : (cS l).take (l.length * 3) = cS l := take_len (by simp [cS_length])

/-! ### a slice that the call makes, which may be nil -/
/-- v holds cs, in a row of slot D. -/
def HS (e sz D : Nat) (o : Ob) (nx : Nat) (v : AV) (n : Nat) (cs : List AV) : Prop :=
  (v = .nil ∧ n = 0 ∧ cs = []) ∨ ∃ i g, v = .ref (i, D) g 0 n ∧ i < nx ∧ o (i, D) = some (.row ⟨e, sz, g, false, true, cs⟩) ∧ cs.length = n * sz
theorem HS.nil {e sz D o nx} : HS e sz D o nx .nil 0 [] := .inl ⟨rfl, rfl, rfl⟩
theorem HS.keep {e sz D o nx v n cs} (h : HS e sz D o nx v n cs) {o' : Ob} {nx' : Nat} (ho : ∀ i, i < nx → o' (i, D) = o (i, D)) (hn : nx ≤ nx') : HS e sz D o' nx' v n cs := by
  rcases h with h | ⟨i, g, h1, h2, h3, h4⟩
  · exact .inl h
  · exact .inr ⟨i, g, h1, by omega, by rw [ho i h2, h3], h4⟩
theorem HS.ok {e sz D o nx v n cs} (h : HS e sz D o nx v n cs) : cellOk v = true := by
  rcases h with ⟨rfl, _⟩ | ⟨i, g, rfl, _⟩ <;> rfl
theorem HS.cells {e sz D o nx v n cs} (h : HS e sz D o nx v n cs) : v.cells = [v] := by
  rcases h with ⟨rfl, _⟩ | ⟨i, g, rfl, _⟩ <;> rfl
theorem HS.len {e sz D o nx v n cs} (h : HS e sz D o nx v n cs) : cs.length = n * sz := by
  rcases h with ⟨_, rfl, rfl⟩ | ⟨i, g, _, _, _, h⟩
  · simp
  · exact h
/-- What it is handed on as. -/
theorem HS.view {e sz D o nx v n cs} (h : HS e sz D o nx v n cs) (d : Nat) : view o (d + 1) v = .sl n (cs.map (view o d)) := by
  rcases h with ⟨rfl, rfl, rfl⟩ | ⟨i, g, rfl, _, h3, h4⟩
  · rfl
  · rw [view_ref, h3, rowIf_some, viewR_some]
    simp only [Nat.zero_add, List.drop_zero]
    rw [if_pos (by omega), take_len h4]

theorem nin_slot {D : Nat} {l : List Tag} (h : ∀ t ∈ l, t.2 = D) {i j : Nat} (hj : j ≠ D) : nin (i, j) l = true := by
  unfold nin
  have : (i, j) ∉ l := fun hm => hj (h _ hm)
  simp [this]
theorem HS.tags {e sz D o nx v n cs} (h : HS e sz D o nx v n cs) (d : Nat) (hf : cs.flatMap (viewTags o d) = []) : ∀ t ∈ viewTags o (d + 1) v, t.2 = D := by
  rcases h with ⟨rfl, rfl, rfl⟩ | ⟨i, g, rfl, _, h3, h4⟩
  · intro t ht; cases ht
  · rw [tags_ref, h3, rowIf_some, tagsR_some, List.drop_zero, take_len h4, hf]
    intro t ht
    rw [List.mem_singleton.1 ht]
theorem HS.nin {e sz D o nx v n cs} (h : HS e sz D o nx v n cs) (d : Nat) (hf : cs.flatMap (viewTags o d) = []) {i j : Nat} (hj : j ≠ D) : A.nin (i, j) (viewTags o (d + 1) v) = true := nin_slot (h.tags d hf) hj

/-! ### rows of whole numbers, each of its own make -/
def NI (D : Nat) (o : Ob) (nx : Nat) (cs : List AV) (rows : List (List Int)) : Prop :=
  cs.length = rows.length ∧ (∀ j, j < rows.length → HS 3 1 D o nx (cs.getD j .nil) (rows.getD j []).length (cI (rows.getD j []))) ∧
    ∀ j j' i g n g' n', j < j' → cs.getD j .nil = .ref (i, D) g 0 n → cs.getD j' .nil ≠ .ref (i, D) g' 0 n'
theorem NI.keep {D o nx cs rows} (h : NI D o nx cs rows) {o' : Ob} {nx' : Nat} (ho : ∀ i, i < nx → o' (i, D) = o (i, D)) (hn : nx ≤ nx') : NI D o' nx' cs rows :=
  ⟨h.1, fun j hj => (h.2.1 j hj).keep ho hn, h.2.2⟩
theorem NI.start (D o nx) (n : Nat) : NI D o nx (List.replicate n .nil) (List.replicate n []) := by
  refine ⟨by simp, fun j hj => ?_, fun j j' i g m g' m' hj h => ?_⟩
  · have hj : j < n := by simpa using hj
    have e1 : (List.replicate n AV.nil).getD j .nil = .nil := by simp [List.getD, List.getElem?_replicate, hj]
    have e2 : (List.replicate n ([] : List Int)).getD j [] = [] := by simp [List.getD, List.getElem?_replicate, hj]
    rw [e1, e2]
    exact .inl ⟨rfl, rfl, rfl⟩
  · by_cases hj : j < n
    · have e1 : (List.replicate n AV.nil).getD j .nil = .nil := by simp [List.getD, List.getElem?_replicate, hj]
      rw [e1] at h; cases h
    · have e1 : (List.replicate n AV.nil).getD j .nil = .nil := by simp [List.getD, List.getElem?_replicate, hj]
      rw [e1] at h; cases h
theorem getD_set {α : Type} (l : List α) (i j : Nat) (x d : α) (hi : i < l.length) : (l.set i x).getD j d = if i = j then x else l.getD j d := by
  simp only [List.getD, List.getElem?_set]
  by_cases h : i = j
  · subst h; simp [hi]
  · simp [h]
/-- One of them is turned. -/
theorem NI.set {D o nx cs rows} (h : NI D o nx cs rows) {j : Nat} (hj : j < rows.length) {o' : Ob} {nx' : Nat} {i : Nat} {g : Tag} {l : List Int} {n : Nat} (hl : n = l.length) (hn : nx ≤ nx') (hi : i < nx')
    (hnew : cs.getD j .nil = .nil ∧ nx ≤ i ∨ ∃ g0 n0, cs.getD j .nil = .ref (i, D) g0 0 n0) (ho : ∀ i', i' < nx → i' ≠ i → o' (i', D) = o (i', D)) (hrow : o' (i, D) = some (.row ⟨3, 1, g, false, true, cI l⟩)) :
    NI D o' nx' (cs.set j (.ref (i, D) g 0 n)) (rows.set j l) := by
  subst hl
  obtain ⟨h1, h2, h3⟩ := h
  have hjc : j < cs.length := by omega
  have apart : ∀ j', j' ≠ j → ∀ g' n', cs.getD j' .nil = .ref (i, D) g' 0 n' → j' < rows.length → False := fun j' hne g' n' he hlt => by
    rcases hnew with ⟨_, hi'⟩ | ⟨g0, n0, he0⟩
    · rcases h2 j' hlt with ⟨e, _⟩ | ⟨i1, g1, e, hi1, _⟩
      · rw [e] at he; cases he
      · rw [e] at he; injection he with he; injection he with he; omega
    · rcases Nat.lt_or_gt_of_ne hne with hlt' | hlt'
      · exact h3 j' j i g' n' g0 n0 hlt' he he0
      · exact h3 j j' i g0 n0 g' n' hlt' he0 he
  have out : ∀ j', ¬ j' < rows.length → cs.getD j' .nil = .nil := fun j' hj' => by
    simp [List.getD, List.getElem?_eq_none (show cs.length ≤ j' by omega)]
  refine ⟨by simpa using h1, fun j' hj' => ?_, fun j1 j2 i1 g1 n1 g2 n2 hlt e1 e2 => ?_⟩
  · have hj'' : j' < rows.length := by simpa using hj'
    rw [getD_set _ _ _ _ _ hjc, getD_set _ _ _ _ _ hj]
    by_cases e : j = j'
    · rw [if_pos e, if_pos e]
      exact .inr ⟨i, g, rfl, hi, hrow, by simp [cI]⟩
    · rw [if_neg e, if_neg e]
      rcases h2 j' hj'' with hh | ⟨i1, g1, e1, hi1, e3, e4⟩
      · exact .inl hh
      · refine .inr ⟨i1, g1, e1, by omega, ?_, e4⟩
        rw [ho i1 hi1 (fun hc => by subst hc; exact apart j' (fun hc => e hc.symm) _ _ e1 hj''), e3]
  · rw [getD_set _ _ _ _ _ hjc] at e1 e2
    have bound : ∀ j', (∃ i g n, cs.getD j' .nil = .ref i g 0 n) → j' < rows.length := fun j' ⟨i, g, n, he⟩ => by
      by_cases hb : j' < rows.length
      · exact hb
      · rw [out j' hb] at he; cases he
    by_cases c1 : j = j1
    · rw [if_pos c1] at e1
      rw [if_neg (by omega)] at e2
      injection e1 with e1; injection e1 with e1
      subst e1
      exact apart j2 (by omega) _ _ e2 (bound j2 ⟨_, _, _, e2⟩)
    · rw [if_neg c1] at e1
      by_cases c2 : j = j2
      · rw [if_pos c2] at e2
        injection e2 with e2; injection e2 with e2
        subst e2
        exact apart j1 (by omega) _ _ e1 (bound j1 ⟨_, _, _, e1⟩)
      · rw [if_neg c2] at e2
        exact h3 j1 j2 i1 g1 n1 g2 n2 hlt e1 e2
/-- What they are handed on as. -/
theorem NI.view {D o nx cs rows} (h : NI D o nx cs rows) (d : Nat) : cs.map (A.view o (d + 1)) = rows.map slI := by
  refine List.ext_getElem (by simpa using h.1) fun j h1 h2 => ?_
  have hj : j < rows.length := by simpa using h2
  have hjc : j < cs.length := by simpa using h1
  have := h.2.1 j hj
  have e1 : cs.getD j .nil = cs[j] := by simp [List.getD, hjc]
  have e2 : rows.getD j [] = rows[j] := by simp [List.getD, hj]
  rw [e1, e2] at this
  simp only [List.getElem_map]
  rw [this.view, view_cI]

/-! ### contracts as relations -/
def Fun1 (R : List AV → AV → Prop) : Prop := ∀ args r r', R args r → R args r' → r = r'
open Classical in
noncomputable def tRel (R : List AV → AV → Prop) : List AV → Option AV := fun args => if h : ∃ r, R args r then some h.choose else none
theorem tRel_eq {R : List AV → AV → Prop} (hf : Fun1 R) {args : List AV} {r : AV} (h : R args r) : tRel R args = some r := by
  unfold tRel
  rw [dif_pos ⟨r, h⟩]
  exact congrArg some (hf _ _ _ (Exists.choose_spec (p := R args) ⟨r, h⟩) h)
theorem tRel_ok {P : Program} {f : FuncId} {R : List AV → AV → Prop} (hk : ∀ args r, R args r → Ok P f args r) : ∀ args r, tRel R args = some r → Ok P f args r := fun args r h => by
  unfold tRel at h
  split at h
  · rename_i hh
    injection h with h
    subst h
    exact hk _ _ hh.choose_spec
  · cases h
theorem cI_inj {x y : List Int} (h : cI x = cI y) : x = y := by
  unfold cI at h
  exact List.map_inj_right (fun a b h => by injection h) |>.1 h
theorem cB_inj {x y : List Bool} (h : cB x = cB y) : x = y := by
  unfold cB at h
  exact List.map_inj_right (fun a b h => by injection h) |>.1 h
theorem slI_inj {x y : List Int} (h : slI x = slI y) : x = y := by
  unfold slI at h; injection h with _ h; exact cI_inj h
theorem slIs_inj {x y : List (List Int)} (h : x.map slI = y.map slI) : x = y := List.map_inj_right (fun a b h => slI_inj h) |>.1 h
theorem cP_inj : ∀ {x y : List (Int × Int)}, cP x = cP y → x = y
  | [], [], _ => rfl
  | [], _ :: _, h => by cases h
  | _ :: _, [], h => by cases h
  | (a, b) :: x, (c, d) :: y, h => by
    simp only [cP, List.flatMap_cons, List.cons_append, List.nil_append, List.cons.injEq, AV.int.injEq, true_and] at h
    obtain ⟨rfl, rfl, h⟩ := h
    rw [cP_inj h]
theorem cS_inj : ∀ {x y : List (Int × Int × Int)}, cS x = cS y → x = y
  | [], [], _ => rfl
  | [], _ :: _, h => by cases h
  | _ :: _, [], h => by cases h
  | (a, b, e) :: x, (c, d, f) :: y, h => by
    simp only [cS, List.flatMap_cons, List.cons_append, List.nil_append, List.cons.injEq, AV.int.injEq, true_and] at h
    obtain ⟨rfl, rfl, rfl, h⟩ := h
    rw [cS_inj h]

/-! ### a contract out of a walk -/
theorem runP_of_WP {E : Env} {cr : CallR} {k : Nat} {nz : Nat → Option (List (Nat × Nat))} {fn : Func} {c : Code} {args : List AV} {r : AV} (hb : fn.body = some c)
    (h : WP E cr k nz c (begin_ args) (fun _ => none) 0 (fun u a o nx => (u = .normal ∨ u = .ret) ∧ wO (resultsL E.P a ⟨o, nx⟩ fn.results.toList) (fun vs => A.view o vDepth (tup1 vs) = r))) :
    ∃ v H', runP E cr k nz fn args noHeap = some (v, H') ∧ A.view H'.o vDepth v = r := by
  unfold WP at h
  unfold runP noHeap
  rw [hb]
  dsimp only
  cases he : evalP E (fun _ _ => none) cr k nz none c (begin_ args) { o := fun _ => none, nx := 0 } with
  | none => rw [he] at h; exact h.elim
  | some p =>
    obtain ⟨u, a, H⟩ := p
    rw [he] at h
    obtain ⟨hu, h⟩ := h
    obtain ⟨vs, h1, h2⟩ : ∃ vs, resultsL E.P a H fn.results.toList = some vs ∧ A.view H.o vDepth (tup1 vs) = r := by
      unfold wO at h
      split at h
      · rename_i vs e; exact ⟨vs, e, h⟩
      · exact h.elim
    rcases hu with rfl | rfl
    · dsimp only
      refine ⟨tup1 vs, H, ?_, h2⟩
      show (resultsL E.P a H fn.results.toList).map _ = _
      rw [show resultsL E.P a H fn.results.toList = some vs from h1]; rfl
    · dsimp only
      refine ⟨tup1 vs, H, ?_, h2⟩
      show (resultsL E.P a H fn.results.toList).map _ = _
      rw [show resultsL E.P a H fn.results.toList = some vs from h1]; rfl
theorem ok_of_WP {E : Env} {cr : CallR} (hX : CPSound E.P E.ext) (hR : CRSound E.P cr ∧ Up cr) (hm : E.P.follows .mixedOrders = true) {k : Nat} {nz : Nat → Option (List (Nat × Nat))} {fn : Func} {f : FuncId} {args : List AV} {r : AV} (hf : E.P.funcs[f]? = some fn)
    (hl : lookedAt E nz args.length fn = true) (hb : fn.body = some (fn.body.getD .skip))
    (h : WP E cr k nz (fn.body.getD .skip) (begin_ args) (fun _ => none) 0 (fun u a o nx => (u = .normal ∨ u = .ret) ∧ wO (resultsL E.P a ⟨o, nx⟩ fn.results.toList) (fun vs => A.view o vDepth (tup1 vs) = r))) : Ok E.P f args r := by
  obtain ⟨v, H', h1, h2⟩ := runP_of_WP hb h
  rw [← h2]
  exact ok_run hX hR.1 hR.2 hm hf hl h1
def noR : CallR := fun _ _ _ => none
theorem noR_ok (P : Program) : CRSound P noR ∧ Up noR := ⟨fun g args H v H' h => (by cases h), fun g args H v H' h => (by cases h)⟩
@[go_sem] theorem resultsL_nil (P a H) : resultsL P a H [] = some [] := rfl
@[go_sem] theorem resultsL_cons (P a H r rs) : resultsL P a H (r :: rs) = consO (result1 P a H r) (resultsL P a H rs) := rfl
@[go_sem] theorem result1_tmp (P a H t) : result1 P a H (.tmp t) = some (a t) := rfl
@[go_sem] theorem result1_cell (P a H ad t) : result1 P a H (.cell ad t) = aLoad P t (a ad) H := rfl
@[go_sem] theorem tup1_one (v) : tup1 [v] = v := rfl
@[go_sem] theorem tup1_two (v w) : tup1 [v, w] = .tup [v, w] := rfl
@[go_sem] theorem tup1_three (v w x) : tup1 [v, w, x] = .tup [v, w, x] := rfl
/-- A piece of code, by its place. -/
def pathC : List Nat → Code → Code
  | [], c => c
  | 0 :: p, .seq a _ => pathC p a
  | 1 :: p, .seq _ b => pathC p b
  | 0 :: p, .block _ c => pathC p c
  | 0 :: p, .loop c => pathC p c
  | 0 :: p, .scope c => pathC p c
  | 0 :: p, .cond _ a _ => pathC p a
  | 1 :: p, .cond _ _ b => pathC p b
  | _, c => c
end Go.Proofs.YtmcbfbpdfbcakaaDoor.A
/- within: the remainder. -/
namespace Go.Proofs.YtmcbfbpdfbcakaaDoor.A
open Go
set_option maxRecDepth 20000
def RW (args : List AV) (r : AV) : Prop := ∃ a n : Int, 0 < n ∧ n ≤ 1000000 ∧ args = [.int .i64 a, .int .i64 n] ∧ r = .int .i64 (a % n)
theorem RW_fn : Fun1 RW := by
  rintro args r r' ⟨a, n, _, _, rfl, rfl⟩ ⟨a', n', _, _, h, rfl⟩
  simp only [List.cons.injEq, AV.int.injEq, true_and, and_true] at h
  rw [h.1, h.2]
theorem rw_eq {a n : Int} (h1 : 0 < n) (h2 : n ≤ 1000000) : tRel RW [.int .i64 a, .int .i64 n] = some (.int .i64 (a % n)) := tRel_eq RW_fn ⟨a, n, h1, h2, rfl, rfl⟩
theorem mod_of (a n : Int) (h : 0 < n) : a % n = if a.tmod n < 0 then a.tmod n + n else a.tmod n := by
  have hn : ¬ n = 0 := by omega
  have e1 := Int.emod_lt_of_pos a h
  have e2 := Int.emod_nonneg a hn
  rw [Int.tmod_eq_emod]
  have : (n.natAbs : Int) = n := by omega
  split
  · split <;> omega
  · rename_i hc
    simp only [not_or] at hc
    have h0 : a % n ≠ 0 := fun e => hc.2 (Int.dvd_of_emod_eq_zero e)
    split <;> omega
theorem tmod_in (a n : Int) (h : 0 < n) : -n < a.tmod n ∧ a.tmod n < n := by
  have hn : ¬ n = 0 := by omega
  rw [Int.tmod_eq_emod]
  have := Int.emod_lt_of_pos a h
  have := Int.emod_nonneg a hn
  constructor <;> split <;> omega
theorem lookW2 (X) : lookedAt (EX md0 X) (fun _ => none) 2 Tryd.f17 = true := by kernel_rfl
theorem within2_ok (args r) (h : RW args r) : Ok Tryd.prog 17 args r := by
  obtain ⟨a, n, h1, h2, rfl, rfl⟩ := h
  refine ok_of_WP (E := EX md0 (fun _ _ => none)) (cr := noR) (tab_nil _) (noR_ok _) mixed (k := 0) Tryd.func17 (lookW2 _) rfl ?_
  rw [mod_of a n h1]
  obtain ⟨h3, h4⟩ := tmod_in a n h1
  simp only [Tryd.f17, Option.getD_some]
  by_cases hc : a.tmod n < 0
  · rw [if_pos hc]
    simp (disch := omega) only [go_sem, ↓IntWalk.iteOmega, IntWalk.toNatUp, Nat.reduceEqDiff, Nat.reduceAdd, Nat.reduceMul, Nat.reduceSub, Nat.reduceLT, Nat.reduceLeDiff, Int.reduceToNat, Int.reduceLT, Int.reduceLE, Int.reduceEq, Int.reduceAdd, Int.reduceSub, Int.reduceMul, Int.toNat_natCast, reduceCtorEq, decide_true, decide_false, IntWalk.i64_in, IntWalk.u64_in, IntWalk.u8_in, hc]
  · rw [if_neg hc]
    simp (disch := omega) only [go_sem, ↓IntWalk.iteOmega, IntWalk.toNatUp, Nat.reduceEqDiff, Nat.reduceAdd, Nat.reduceMul, Nat.reduceSub, Nat.reduceLT, Nat.reduceLeDiff, Int.reduceToNat, Int.reduceLT, Int.reduceLE, Int.reduceEq, Int.reduceAdd, Int.reduceSub, Int.reduceMul, Int.toNat_natCast, reduceCtorEq, decide_true, decide_false, IntWalk.i64_in, IntWalk.u64_in, IntWalk.u8_in, hc]
end Go.Proofs.YtmcbfbpdfbcakaaDoor.A
/- Trees: raw expressions, nodes, their cells; the expression of a raw one. -/
namespace Go.Proofs.YtmcbfbpdfbcakaaDoor.A
open Go
set_option maxRecDepth 20000
/-! ### trees, and their cells -/
inductive Rw where
  | mk (k n : Int) (l : List Rw)
inductive Nd where
  | mk (kind set lo hi : Int) (l : List Nd)
instance : Inhabited Rw := ⟨.mk 0 0 []⟩
instance : Inhabited Nd := ⟨.mk 0 0 0 0 []⟩
mutual
def cRw : Rw → List AV
  | .mk k n l => [.int .i64 k, .int .i64 n, .sl l.length (cRws l)]
def cRws : List Rw → List AV
  | [] => []
  | r :: l => cRw r ++ cRws l
end
mutual
def cNd : Nd → List AV
  | .mk kind set lo hi l => [.int .i64 kind, .int .i64 set, .int .i64 lo, .int .i64 hi, .sl l.length (cNds l)]
def cNds : List Nd → List AV
  | [] => []
  | r :: l => cNd r ++ cNds l
end
abbrev slR (l : List Rw) : AV := .sl l.length (cRws l)
abbrev slN (l : List Nd) : AV := .sl l.length (cNds l)
@[go_sem] theorem cRw_mk (k n l) : cRw (.mk k n l) = [.int .i64 k, .int .i64 n, slR l] := by rw [cRw]
@[go_sem] theorem cNd_mk (k s lo hi l) : cNd (.mk k s lo hi l) = [.int .i64 k, .int .i64 s, .int .i64 lo, .int .i64 hi, slN l] := by rw [cNd]
@[go_sem] theorem cRws_nil : cRws [] = [] := by rw [cRws]
@[go_sem] theorem cNds_nil : cNds [] = [] := by rw [cNds]
theorem cRws_cons (r l) : cRws (r :: l) = cRw r ++ cRws l := by rw [cRws]
theorem cNds_cons (r l) : cNds (r :: l) = cNd r ++ cNds l := by rw [cNds]
theorem cRw_length (r) : (cRw r).length = 3 := by obtain ⟨k, n, l⟩ := r; rw [cRw_mk]; rfl
theorem cNd_length (r) : (cNd r).length = 5 := by obtain ⟨k, s, lo, hi, l⟩ := r; rw [cNd_mk]; rfl
@[go_sem] theorem cRw_len (r) : (cRw r).length = 3 := cRw_length r
@[go_sem] theorem cNd_len (r) : (cNd r).length = 5 := cNd_length r
@[go_sem] theorem cRw_take (r) : (cRw r).take 3 = cRw r := take_len (cRw_length r)
@[go_sem] theorem cNd_take (r) : (cNd r).take 5 = cNd r := take_len (cNd_length r)
theorem cRw_take' (r x) : (cRw r ++ x).take 3 = cRw r := by rw [List.take_append_of_le_length (by rw [cRw_length]; omega), cRw_take]
theorem cNd_take' (r x) : (cNd r ++ x).take 5 = cNd r := by rw [List.take_append_of_le_length (by rw [cNd_length]; omega), cNd_take]
attribute [go_sem] cRw_take' cNd_take'
@[go_sem] theorem cNd_ok (r) : (cNd r).all cellOk = true := by obtain ⟨k, s, lo, hi, m⟩ := r; rw [cNd_mk]; rfl
@[go_sem] theorem cRw_ok (r) : (cRw r).all cellOk = true := by obtain ⟨k, n, m⟩ := r; rw [cRw_mk]; rfl
@[go_sem] theorem cRws_length (l) : (cRws l).length = l.length * 3 := by
  induction l with
  | nil => rw [cRws_nil]; rfl
  | cons r l ih => rw [cRws_cons, List.length_append, cRw_length, ih, List.length_cons]; omega
@[go_sem] theorem cNds_length (l) : (cNds l).length = l.length * 5 := by
  induction l with
  | nil => rw [cNds_nil]; rfl
  | cons r l ih => rw [cNds_cons, List.length_append, cNd_length, ih, List.length_cons]; omega
theorem cNds_app (x y) : cNds (x ++ y) = cNds x ++ cNds y := by
  induction x with
  | nil => rw [cNds_nil]; rfl
  | cons r l ih => rw [List.cons_append, cNds_cons, ih, cNds_cons, List.append_assoc]
theorem cNds_one (r) : cNds [r] = cNd r := by rw [cNds_cons, cNds_nil, List.append_nil]
@[go_sem] theorem cNds_ok (l) : (cNds l).all cellOk = true := by
  induction l with
  | nil => rw [cNds_nil]; rfl
  | cons r l ih => obtain ⟨k, s, lo, hi, m⟩ := r; rw [cNds_cons, cNd_mk, List.all_append, ih]; rfl
@[go_sem] theorem view_cNd (o d r) : (cNd r).map (view o d) = cNd r := by
  obtain ⟨k, s, lo, hi, m⟩ := r
  rw [cNd_mk]
  simp only [List.map_cons, List.map_nil, view_int, view_sl]
@[go_sem] theorem view_cNds (o d l) : (cNds l).map (view o d) = cNds l := by
  induction l with
  | nil => rw [cNds_nil]; rfl
  | cons r l ih => rw [cNds_cons, List.map_append, view_cNd, ih]
@[go_sem] theorem view_cRw (o d r) : (cRw r).map (view o d) = cRw r := by
  obtain ⟨k, n, m⟩ := r
  rw [cRw_mk]
  simp only [List.map_cons, List.map_nil, view_int, view_sl]
@[go_sem] theorem tags_cNd (o d r) : (cNd r).flatMap (viewTags o d) = [] := by
  obtain ⟨k, s, lo, hi, m⟩ := r
  rw [cNd_mk]
  simp only [List.flatMap_cons, List.flatMap_nil, tags_int, tags_sl, List.append_nil]
@[go_sem] theorem tags_cNds (o d l) : (cNds l).flatMap (viewTags o d) = [] := by
  induction l with
  | nil => rw [cNds_nil]; rfl
  | cons r l ih => rw [cNds_cons, List.flatMap_append, tags_cNd, ih]; rfl
@[go_sem] theorem tags_cRw (o d r) : (cRw r).flatMap (viewTags o d) = [] := by
  obtain ⟨k, n, m⟩ := r
  rw [cRw_mk]
  simp only [List.flatMap_cons, List.flatMap_nil, tags_int, tags_sl, List.append_nil]
theorem cRws_at {l : List Rw} {i : Nat} (h : i < l.length) : (cRws l).drop (i * 3) = cRw (l.getD i default) ++ cRws (l.drop (i + 1)) := by
  induction l generalizing i with
  | nil => simp at h
  | cons r l ih =>
    cases i with
    | zero => rw [cRws_cons]; rfl
    | succ i =>
      rw [cRws_cons, show (i + 1) * 3 = (cRw r).length + i * 3 by rw [cRw_length]; omega, ← List.drop_drop, List.drop_left, ih (by simpa using h)]
      rfl
theorem cNds_at {l : List Nd} {i : Nat} (h : i < l.length) : (cNds l).drop (i * 5) = cNd (l.getD i default) ++ cNds (l.drop (i + 1)) := by
  induction l generalizing i with
  | nil => simp at h
  | cons r l ih =>
    cases i with
    | zero => rw [cNds_cons]; rfl
    | succ i =>
      rw [cNds_cons, show (i + 1) * 5 = (cNd r).length + i * 5 by rw [cNd_length]; omega, ← List.drop_drop, List.drop_left, ih (by simpa using h)]
      rfl
mutual
theorem cRw_inj : ∀ {x y : Rw}, cRw x = cRw y → x = y
  | .mk k n l, .mk k' n' l', h => by
    rw [cRw_mk, cRw_mk] at h
    simp only [List.cons.injEq, AV.int.injEq, AV.sl.injEq, true_and, and_true] at h
    obtain ⟨h1, h2, _, h3⟩ := h
    rw [h1, h2, cRws_inj h3]
theorem cRws_inj : ∀ {x y : List Rw}, cRws x = cRws y → x = y
  | [], [], _ => rfl
  | [], r :: l, h => by
    have := congrArg List.length h
    rw [cRws_nil, cRws_length] at this
    simp at this
  | r :: l, [], h => by
    have := congrArg List.length h
    rw [cRws_nil, cRws_length] at this
    simp at this
  | r :: l, r' :: l', h => by
    rw [cRws_cons, cRws_cons] at h
    obtain ⟨h1, h2⟩ := List.append_inj h (by rw [cRw_length, cRw_length])
    rw [cRw_inj h1, cRws_inj h2]
end
mutual
theorem cNd_inj : ∀ {x y : Nd}, cNd x = cNd y → x = y
  | .mk k s lo hi l, .mk k' s' lo' hi' l', h => by
    rw [cNd_mk, cNd_mk] at h
    simp only [List.cons.injEq, AV.int.injEq, AV.sl.injEq, true_and, and_true] at h
    obtain ⟨h1, h2, h4, h5, _, h3⟩ := h
    rw [h1, h2, h4, h5, cNds_inj h3]
theorem cNds_inj : ∀ {x y : List Nd}, cNds x = cNds y → x = y
  | [], [], _ => rfl
  | [], r :: l, h => by
    have := congrArg List.length h
    rw [cNds_nil, cNds_length] at this
    simp at this
  | r :: l, [], h => by
    have := congrArg List.length h
    rw [cNds_nil, cNds_length] at this
    simp at this
  | r :: l, r' :: l', h => by
    rw [cNds_cons, cNds_cons] at h
    obtain ⟨h1, h2⟩ := List.append_inj h (by rw [cNd_length, cNd_length])
    rw [cNd_inj h1, cNds_inj h2]
end
/-! ### the expression of a raw one -/
def sign (x : Int) : Int := IntKind.i64.wrap (1 * 2 ^ min (x % 5).toNat 64)
def partN (n : Int) (ls : List Nd) (i : Nat) : Nd := if i < ls.length then ls.getD i default else .mk 1 (sign (IntKind.i64.wrap (n + i))) 0 0 []
def many4 (n : Nat) : Nat := if n ≤ 2 then 2 else if n ≤ 4 then n else 4
/-- Of a raw one's numbers, and its parts' expressions. -/
def buildN (k n : Int) (ls : List Nd) : Nd :=
  if k % 14 ≤ 1 then .mk 1 (1 + n % 31) 0 0 []
  else if k % 14 ≤ 3 then .mk 1 (sign n) 0 0 []
  else if k % 14 = 4 then .mk (if n % 3 = 0 then 2 else 3) 0 0 0 []
  else if k % 14 ≤ 7 then .mk 4 0 0 0 ((List.range (many4 ls.length)).map (partN n ls))
  else if k % 14 ≤ 9 then .mk 5 0 0 0 ((List.range (many4 ls.length)).map (partN n ls))
  else if k % 14 = 10 then .mk 6 0 0 0 [partN n ls 0]
  else if k % 14 = 11 then .mk 7 0 0 0 [partN n ls 0]
  else if k % 14 = 12 then .mk 8 0 0 0 [partN n ls 0]
  else .mk 9 0 (n % 4) (n % 4 + IntKind.i64.wrap (n.tdiv 4) % 3) [partN n ls 0]
mutual
def makeN : Rw → Nd
  | .mk k n l => buildN k n (makeNs l)
def makeNs : List Rw → List Nd
  | [] => []
  | r :: l => makeN r :: makeNs l
end
theorem makeNs_length (l) : (makeNs l).length = l.length := by
  induction l with
  | nil => rw [makeNs]; rfl
  | cons r l ih => rw [makeNs, List.length_cons, ih, List.length_cons]
theorem makeNs_get {l : List Rw} {i : Nat} (h : i < l.length) : (makeNs l).getD i default = makeN (l.getD i default) := by
  induction l generalizing i with
  | nil => simp at h
  | cons r l ih =>
    rw [makeNs]
    cases i with
    | zero => rfl
    | succ i => exact ih (by simpa using h)
abbrev rawV (r : Rw) : AV := .agg (cRw r)
abbrev nodeV (n : Nd) : AV := .agg (cNd n)
end Go.Proofs.YtmcbfbpdfbcakaaDoor.A
