/- Facts on the types' table, on how functions are called. -/
import Derived.Test.YtbapebepmbikhaaDoorMLDCaps1
import Derived.Test.YtbapebepmbikhaaDoorMLDCaps2
import Derived.Test.YtbapebepmbikhaaDoorMLDCaps3
import Derived.Test.YtbapebepmbikhaaDoorMLDCaps4
set_option linter.unusedVariables false
set_option linter.unusedSimpArgs false
set_option linter.unnecessarySimpa false
namespace Go.Proofs.YtbapebepmbikhaaDoor.A
open Go
noncomputable def EX (md : FuncId → Mode) (X : FuncId → List AV → Option AV) : Env := ⟨Tryd.prog, md, X⟩
@[go_sem] theorem EX_P (md X) : (EX md X).P = Tryd.prog := rfl
@[go_sem] theorem EX_m (md X g) : (EX md X).mode g = md g := rfl
@[go_sem] theorem EX_x (md X g as_) : (EX md X).ext g as_ = X g as_ := rfl
@[go_sem] theorem T2s : tSize Tryd.prog 2 = some 1 := by kernel_rfl
@[go_sem] theorem T2a : tAgg Tryd.prog 2 = some false := by kernel_rfl
@[go_sem] theorem T2z : tZero Tryd.prog 2 = some [AV.int .i64 0] := by kernel_rfl
@[go_sem] theorem T2u : Tryd.prog.underlying 2 = some (.int .i64) := by kernel_rfl
@[go_sem] theorem T3s : tSize Tryd.prog 3 = some 1 := by kernel_rfl
@[go_sem] theorem T3a : tAgg Tryd.prog 3 = some false := by kernel_rfl
@[go_sem] theorem T3z : tZero Tryd.prog 3 = some [AV.int .i64 0] := by kernel_rfl
@[go_sem] theorem T3u : Tryd.prog.underlying 3 = some (.int .i64) := by kernel_rfl
@[go_sem] theorem T4s : tSize Tryd.prog 4 = some 1 := by kernel_rfl
@[go_sem] theorem T4a : tAgg Tryd.prog 4 = some false := by kernel_rfl
@[go_sem] theorem T4z : tZero Tryd.prog 4 = some [AV.bool false] := by kernel_rfl
@[go_sem] theorem T4eq (x y) : aBin Tryd.prog .eql 4 (.bool x) (.bool y) = some (.bool (x == y)) := aBin_beq (by kernel_rfl) x y
@[go_sem] theorem T4ne (x y) : aBin Tryd.prog .neq 4 (.bool x) (.bool y) = some (.bool (!(x == y))) := aBin_bne (by kernel_rfl) x y
@[go_sem] theorem T5s : tSize Tryd.prog 5 = some 1 := by kernel_rfl
@[go_sem] theorem T5a : tAgg Tryd.prog 5 = some false := by kernel_rfl
@[go_sem] theorem T5z : tZero Tryd.prog 5 = some [AV.int .u8 0] := by kernel_rfl
@[go_sem] theorem T5u : Tryd.prog.underlying 5 = some (.int .u8) := by kernel_rfl
@[go_sem] theorem T6s : tSize Tryd.prog 6 = some 1 := by kernel_rfl
@[go_sem] theorem T6a : tAgg Tryd.prog 6 = some false := by kernel_rfl
@[go_sem] theorem T6z : tZero Tryd.prog 6 = some [AV.int .u8 0] := by kernel_rfl
@[go_sem] theorem T6u : Tryd.prog.underlying 6 = some (.int .u8) := by kernel_rfl
@[go_sem] theorem T7s : tSize Tryd.prog 7 = some 4 := by kernel_rfl
@[go_sem] theorem T7a : tAgg Tryd.prog 7 = some true := by kernel_rfl
@[go_sem] theorem T7z : tZero Tryd.prog 7 = some [AV.int .i64 0, AV.int .i64 0, AV.bool false, AV.int .u8 0] := by kernel_rfl
@[go_sem] theorem T7f0p (k g off) : fieldAddrA Tryd.prog 7 0 (.ptr k g off) = some (.ptr k g (off + 0)) := fa_ptr (s := 0) (ft := 2) (by kernel_rfl) (by kernel_rfl) k g off
@[go_sem] theorem T7f0q (cs) : fieldAddrA Tryd.prog 7 0 (.fptr cs) = some (.fptr (cs.drop 0)) := fa_fptr (s := 0) (ft := 2) (by kernel_rfl) (by kernel_rfl) cs
@[go_sem] theorem T7f0v (cs) : fieldA Tryd.prog 7 0 (.agg cs) = takeT Tryd.prog 2 (cs.drop 0) := fi_agg (by kernel_rfl) cs
@[go_sem] theorem T7f1p (k g off) : fieldAddrA Tryd.prog 7 1 (.ptr k g off) = some (.ptr k g (off + 1)) := fa_ptr (s := 0) (ft := 3) (by kernel_rfl) (by kernel_rfl) k g off
@[go_sem] theorem T7f1q (cs) : fieldAddrA Tryd.prog 7 1 (.fptr cs) = some (.fptr (cs.drop 1)) := fa_fptr (s := 0) (ft := 3) (by kernel_rfl) (by kernel_rfl) cs
@[go_sem] theorem T7f1v (cs) : fieldA Tryd.prog 7 1 (.agg cs) = takeT Tryd.prog 3 (cs.drop 1) := fi_agg (by kernel_rfl) cs
@[go_sem] theorem T7f2p (k g off) : fieldAddrA Tryd.prog 7 2 (.ptr k g off) = some (.ptr k g (off + 2)) := fa_ptr (s := 0) (ft := 4) (by kernel_rfl) (by kernel_rfl) k g off
@[go_sem] theorem T7f2q (cs) : fieldAddrA Tryd.prog 7 2 (.fptr cs) = some (.fptr (cs.drop 2)) := fa_fptr (s := 0) (ft := 4) (by kernel_rfl) (by kernel_rfl) cs
@[go_sem] theorem T7f2v (cs) : fieldA Tryd.prog 7 2 (.agg cs) = takeT Tryd.prog 4 (cs.drop 2) := fi_agg (by kernel_rfl) cs
@[go_sem] theorem T7f3p (k g off) : fieldAddrA Tryd.prog 7 3 (.ptr k g off) = some (.ptr k g (off + 3)) := fa_ptr (s := 0) (ft := 6) (by kernel_rfl) (by kernel_rfl) k g off
@[go_sem] theorem T7f3q (cs) : fieldAddrA Tryd.prog 7 3 (.fptr cs) = some (.fptr (cs.drop 3)) := fa_fptr (s := 0) (ft := 6) (by kernel_rfl) (by kernel_rfl) cs
@[go_sem] theorem T7f3v (cs) : fieldA Tryd.prog 7 3 (.agg cs) = takeT Tryd.prog 6 (cs.drop 3) := fi_agg (by kernel_rfl) cs
@[go_sem] theorem T7bd (xs) : aBuild Tryd.prog 7 xs = (fillA (fun i => ([(0, 1), (1, 1), (2, 1), (3, 1)] : List (Nat × Nat))[i]?) [AV.int .i64 0, AV.int .i64 0, AV.bool false, AV.int .u8 0] xs).map .agg := by kernel_rfl
@[go_sem] theorem T7lf : eqLeaves Tryd.prog 7 = some [Leaf.int, Leaf.int, Leaf.bool, Leaf.int] := by kernel_rfl
@[go_sem] theorem T8s : tSize Tryd.prog 8 = some 4 := by kernel_rfl
@[go_sem] theorem T8a : tAgg Tryd.prog 8 = some true := by kernel_rfl
@[go_sem] theorem T8z : tZero Tryd.prog 8 = some [AV.int .i64 0, AV.int .i64 0, AV.bool false, AV.int .u8 0] := by kernel_rfl
@[go_sem] theorem T8f0p (k g off) : fieldAddrA Tryd.prog 8 0 (.ptr k g off) = some (.ptr k g (off + 0)) := fa_ptr (s := 0) (ft := 2) (by kernel_rfl) (by kernel_rfl) k g off
@[go_sem] theorem T8f0q (cs) : fieldAddrA Tryd.prog 8 0 (.fptr cs) = some (.fptr (cs.drop 0)) := fa_fptr (s := 0) (ft := 2) (by kernel_rfl) (by kernel_rfl) cs
@[go_sem] theorem T8f0v (cs) : fieldA Tryd.prog 8 0 (.agg cs) = takeT Tryd.prog 2 (cs.drop 0) := fi_agg (by kernel_rfl) cs
@[go_sem] theorem T8f1p (k g off) : fieldAddrA Tryd.prog 8 1 (.ptr k g off) = some (.ptr k g (off + 1)) := fa_ptr (s := 0) (ft := 3) (by kernel_rfl) (by kernel_rfl) k g off
@[go_sem] theorem T8f1q (cs) : fieldAddrA Tryd.prog 8 1 (.fptr cs) = some (.fptr (cs.drop 1)) := fa_fptr (s := 0) (ft := 3) (by kernel_rfl) (by kernel_rfl) cs
@[go_sem] theorem T8f1v (cs) : fieldA Tryd.prog 8 1 (.agg cs) = takeT Tryd.prog 3 (cs.drop 1) := fi_agg (by kernel_rfl) cs
@[go_sem] theorem T8f2p (k g off) : fieldAddrA Tryd.prog 8 2 (.ptr k g off) = some (.ptr k g (off + 2)) := fa_ptr (s := 0) (ft := 4) (by kernel_rfl) (by kernel_rfl) k g off
@[go_sem] theorem T8f2q (cs) : fieldAddrA Tryd.prog 8 2 (.fptr cs) = some (.fptr (cs.drop 2)) := fa_fptr (s := 0) (ft := 4) (by kernel_rfl) (by kernel_rfl) cs
@[go_sem] theorem T8f2v (cs) : fieldA Tryd.prog 8 2 (.agg cs) = takeT Tryd.prog 4 (cs.drop 2) := fi_agg (by kernel_rfl) cs
@[go_sem] theorem T8f3p (k g off) : fieldAddrA Tryd.prog 8 3 (.ptr k g off) = some (.ptr k g (off + 3)) := fa_ptr (s := 0) (ft := 6) (by kernel_rfl) (by kernel_rfl) k g off
@[go_sem] theorem T8f3q (cs) : fieldAddrA Tryd.prog 8 3 (.fptr cs) = some (.fptr (cs.drop 3)) := fa_fptr (s := 0) (ft := 6) (by kernel_rfl) (by kernel_rfl) cs
@[go_sem] theorem T8f3v (cs) : fieldA Tryd.prog 8 3 (.agg cs) = takeT Tryd.prog 6 (cs.drop 3) := fi_agg (by kernel_rfl) cs
@[go_sem] theorem T8bd (xs) : aBuild Tryd.prog 8 xs = (fillA (fun i => ([(0, 1), (1, 1), (2, 1), (3, 1)] : List (Nat × Nat))[i]?) [AV.int .i64 0, AV.int .i64 0, AV.bool false, AV.int .u8 0] xs).map .agg := by kernel_rfl
@[go_sem] theorem T8lf : eqLeaves Tryd.prog 8 = some [Leaf.int, Leaf.int, Leaf.bool, Leaf.int] := by kernel_rfl
@[go_sem] theorem T9s : tSize Tryd.prog 9 = some 1 := by kernel_rfl
@[go_sem] theorem T9a : tAgg Tryd.prog 9 = some false := by kernel_rfl
@[go_sem] theorem T9z : tZero Tryd.prog 9 = some [AV.str []] := by kernel_rfl
@[go_sem] theorem T9ix (x i) : aIndex Tryd.prog 9 (.str x) i = if 0 ≤ i then (x[i.toNat]?).map fun b => .int .u8 b.toNat else none := ixv_str (by kernel_rfl) x i
@[go_sem] theorem T9sl (x lo hi) : aSlice Tryd.prog 9 (.str x) lo hi = if 0 ≤ lo.getD 0 ∧ lo.getD 0 ≤ hi.getD x.length ∧ hi.getD x.length ≤ x.length then some (.str ((x.take (hi.getD x.length).toNat).drop (lo.getD 0).toNat)) else none := sl_str (by kernel_rfl) x lo hi
@[go_sem] theorem T9ln (o x) : aLen Tryd.prog o 9 (.str x) = some (.int .i64 x.length) := ln_str (by kernel_rfl) o x
@[go_sem] theorem T9u : Tryd.prog.underlying 9 = some .string := by kernel_rfl
@[go_sem] theorem T10s : tSize Tryd.prog 10 = some 1 := by kernel_rfl
@[go_sem] theorem T10a : tAgg Tryd.prog 10 = some false := by kernel_rfl
@[go_sem] theorem T10z : tZero Tryd.prog 10 = some [AV.str []] := by kernel_rfl
@[go_sem] theorem T10ix (x i) : aIndex Tryd.prog 10 (.str x) i = if 0 ≤ i then (x[i.toNat]?).map fun b => .int .u8 b.toNat else none := ixv_str (by kernel_rfl) x i
@[go_sem] theorem T10sl (x lo hi) : aSlice Tryd.prog 10 (.str x) lo hi = if 0 ≤ lo.getD 0 ∧ lo.getD 0 ≤ hi.getD x.length ∧ hi.getD x.length ≤ x.length then some (.str ((x.take (hi.getD x.length).toNat).drop (lo.getD 0).toNat)) else none := sl_str (by kernel_rfl) x lo hi
@[go_sem] theorem T10ln (o x) : aLen Tryd.prog o 10 (.str x) = some (.int .i64 x.length) := ln_str (by kernel_rfl) o x
@[go_sem] theorem T10u : Tryd.prog.underlying 10 = some .string := by kernel_rfl
@[go_sem] theorem T11s : tSize Tryd.prog 11 = some 1 := by kernel_rfl
@[go_sem] theorem T11a : tAgg Tryd.prog 11 = some false := by kernel_rfl
@[go_sem] theorem T11z : tZero Tryd.prog 11 = some [AV.str []] := by kernel_rfl
@[go_sem] theorem T11ix (x i) : aIndex Tryd.prog 11 (.str x) i = if 0 ≤ i then (x[i.toNat]?).map fun b => .int .u8 b.toNat else none := ixv_str (by kernel_rfl) x i
@[go_sem] theorem T11sl (x lo hi) : aSlice Tryd.prog 11 (.str x) lo hi = if 0 ≤ lo.getD 0 ∧ lo.getD 0 ≤ hi.getD x.length ∧ hi.getD x.length ≤ x.length then some (.str ((x.take (hi.getD x.length).toNat).drop (lo.getD 0).toNat)) else none := sl_str (by kernel_rfl) x lo hi
@[go_sem] theorem T11ln (o x) : aLen Tryd.prog o 11 (.str x) = some (.int .i64 x.length) := ln_str (by kernel_rfl) o x
@[go_sem] theorem T11u : Tryd.prog.underlying 11 = some .string := by kernel_rfl
@[go_sem] theorem T12s : tSize Tryd.prog 12 = some 1 := by kernel_rfl
@[go_sem] theorem T12a : tAgg Tryd.prog 12 = some false := by kernel_rfl
@[go_sem] theorem T12z : tZero Tryd.prog 12 = some [AV.int .u64 0] := by kernel_rfl
@[go_sem] theorem T12u : Tryd.prog.underlying 12 = some (.int .u64) := by kernel_rfl
@[go_sem] theorem T13s : tSize Tryd.prog 13 = some 2 := by kernel_rfl
@[go_sem] theorem T13a : tAgg Tryd.prog 13 = some true := by kernel_rfl
@[go_sem] theorem T13z : tZero Tryd.prog 13 = some [AV.str [], AV.int .u64 0] := by kernel_rfl
@[go_sem] theorem T13f0p (k g off) : fieldAddrA Tryd.prog 13 0 (.ptr k g off) = some (.ptr k g (off + 0)) := fa_ptr (s := 0) (ft := 9) (by kernel_rfl) (by kernel_rfl) k g off
@[go_sem] theorem T13f0q (cs) : fieldAddrA Tryd.prog 13 0 (.fptr cs) = some (.fptr (cs.drop 0)) := fa_fptr (s := 0) (ft := 9) (by kernel_rfl) (by kernel_rfl) cs
@[go_sem] theorem T13f0v (cs) : fieldA Tryd.prog 13 0 (.agg cs) = takeT Tryd.prog 9 (cs.drop 0) := fi_agg (by kernel_rfl) cs
@[go_sem] theorem T13f1p (k g off) : fieldAddrA Tryd.prog 13 1 (.ptr k g off) = some (.ptr k g (off + 1)) := fa_ptr (s := 0) (ft := 12) (by kernel_rfl) (by kernel_rfl) k g off
@[go_sem] theorem T13f1q (cs) : fieldAddrA Tryd.prog 13 1 (.fptr cs) = some (.fptr (cs.drop 1)) := fa_fptr (s := 0) (ft := 12) (by kernel_rfl) (by kernel_rfl) cs
@[go_sem] theorem T13f1v (cs) : fieldA Tryd.prog 13 1 (.agg cs) = takeT Tryd.prog 12 (cs.drop 1) := fi_agg (by kernel_rfl) cs
@[go_sem] theorem T13bd (xs) : aBuild Tryd.prog 13 xs = (fillA (fun i => ([(0, 1), (1, 1)] : List (Nat × Nat))[i]?) [AV.str [], AV.int .u64 0] xs).map .agg := by kernel_rfl
@[go_sem] theorem T14s : tSize Tryd.prog 14 = some 2 := by kernel_rfl
@[go_sem] theorem T14a : tAgg Tryd.prog 14 = some true := by kernel_rfl
@[go_sem] theorem T14z : tZero Tryd.prog 14 = some [AV.str [], AV.int .u64 0] := by kernel_rfl
@[go_sem] theorem T14f0p (k g off) : fieldAddrA Tryd.prog 14 0 (.ptr k g off) = some (.ptr k g (off + 0)) := fa_ptr (s := 0) (ft := 9) (by kernel_rfl) (by kernel_rfl) k g off
@[go_sem] theorem T14f0q (cs) : fieldAddrA Tryd.prog 14 0 (.fptr cs) = some (.fptr (cs.drop 0)) := fa_fptr (s := 0) (ft := 9) (by kernel_rfl) (by kernel_rfl) cs
@[go_sem] theorem T14f0v (cs) : fieldA Tryd.prog 14 0 (.agg cs) = takeT Tryd.prog 9 (cs.drop 0) := fi_agg (by kernel_rfl) cs
@[go_sem] theorem T14f1p (k g off) : fieldAddrA Tryd.prog 14 1 (.ptr k g off) = some (.ptr k g (off + 1)) := fa_ptr (s := 0) (ft := 12) (by kernel_rfl) (by kernel_rfl) k g off
@[go_sem] theorem T14f1q (cs) : fieldAddrA Tryd.prog 14 1 (.fptr cs) = some (.fptr (cs.drop 1)) := fa_fptr (s := 0) (ft := 12) (by kernel_rfl) (by kernel_rfl) cs
@[go_sem] theorem T14f1v (cs) : fieldA Tryd.prog 14 1 (.agg cs) = takeT Tryd.prog 12 (cs.drop 1) := fi_agg (by kernel_rfl) cs
@[go_sem] theorem T14bd (xs) : aBuild Tryd.prog 14 xs = (fillA (fun i => ([(0, 1), (1, 1)] : List (Nat × Nat))[i]?) [AV.str [], AV.int .u64 0] xs).map .agg := by kernel_rfl
@[go_sem] theorem T15s : tSize Tryd.prog 15 = some 1 := by kernel_rfl
@[go_sem] theorem T15a : tAgg Tryd.prog 15 = some false := by kernel_rfl
@[go_sem] theorem T15z : tZero Tryd.prog 15 = some [AV.nilp] := by kernel_rfl
@[go_sem] theorem T16s : tSize Tryd.prog 16 = some 1 := by kernel_rfl
@[go_sem] theorem T16a : tAgg Tryd.prog 16 = some false := by kernel_rfl
@[go_sem] theorem T16z : tZero Tryd.prog 16 = some [AV.nilp] := by kernel_rfl
@[go_sem] theorem T17s : tSize Tryd.prog 17 = some 1 := by kernel_rfl
@[go_sem] theorem T17a : tAgg Tryd.prog 17 = some false := by kernel_rfl
@[go_sem] theorem T17z : tZero Tryd.prog 17 = some [AV.nilp] := by kernel_rfl
@[go_sem] theorem T18s : tSize Tryd.prog 18 = some 1 := by kernel_rfl
@[go_sem] theorem T18a : tAgg Tryd.prog 18 = some true := by kernel_rfl
@[go_sem] theorem T18z : tZero Tryd.prog 18 = some [AV.nilp] := by kernel_rfl
@[go_sem] theorem T18f0p (k g off) : fieldAddrA Tryd.prog 18 0 (.ptr k g off) = some (.ptr k g (off + 0)) := fa_ptr (s := 0) (ft := 17) (by kernel_rfl) (by kernel_rfl) k g off
@[go_sem] theorem T18f0q (cs) : fieldAddrA Tryd.prog 18 0 (.fptr cs) = some (.fptr (cs.drop 0)) := fa_fptr (s := 0) (ft := 17) (by kernel_rfl) (by kernel_rfl) cs
@[go_sem] theorem T18f0v (cs) : fieldA Tryd.prog 18 0 (.agg cs) = takeT Tryd.prog 17 (cs.drop 0) := fi_agg (by kernel_rfl) cs
@[go_sem] theorem T18bd (xs) : aBuild Tryd.prog 18 xs = (fillA (fun i => ([(0, 1)] : List (Nat × Nat))[i]?) [AV.nilp] xs).map .agg := by kernel_rfl
@[go_sem] theorem T19s : tSize Tryd.prog 19 = some 1 := by kernel_rfl
@[go_sem] theorem T19a : tAgg Tryd.prog 19 = some true := by kernel_rfl
@[go_sem] theorem T19z : tZero Tryd.prog 19 = some [AV.nilp] := by kernel_rfl
@[go_sem] theorem T19f0p (k g off) : fieldAddrA Tryd.prog 19 0 (.ptr k g off) = some (.ptr k g (off + 0)) := fa_ptr (s := 0) (ft := 17) (by kernel_rfl) (by kernel_rfl) k g off
@[go_sem] theorem T19f0q (cs) : fieldAddrA Tryd.prog 19 0 (.fptr cs) = some (.fptr (cs.drop 0)) := fa_fptr (s := 0) (ft := 17) (by kernel_rfl) (by kernel_rfl) cs
@[go_sem] theorem T19f0v (cs) : fieldA Tryd.prog 19 0 (.agg cs) = takeT Tryd.prog 17 (cs.drop 0) := fi_agg (by kernel_rfl) cs
@[go_sem] theorem T19bd (xs) : aBuild Tryd.prog 19 xs = (fillA (fun i => ([(0, 1)] : List (Nat × Nat))[i]?) [AV.nilp] xs).map .agg := by kernel_rfl
@[go_sem] theorem T21s : tSize Tryd.prog 21 = some 1 := by kernel_rfl
@[go_sem] theorem T21a : tAgg Tryd.prog 21 = some false := by kernel_rfl
@[go_sem] theorem T21z : tZero Tryd.prog 21 = some [AV.int .i32 0] := by kernel_rfl
@[go_sem] theorem T21u : Tryd.prog.underlying 21 = some (.int .i32) := by kernel_rfl
@[go_sem] theorem T22s : tSize Tryd.prog 22 = some 1 := by kernel_rfl
@[go_sem] theorem T22a : tAgg Tryd.prog 22 = some false := by kernel_rfl
@[go_sem] theorem T22z : tZero Tryd.prog 22 = some [AV.nil] := by kernel_rfl
@[go_sem] theorem T22ln0 (o) : aLen Tryd.prog o 22 .nil = some (.int .i64 0) := ln_nil (e := 31) (by kernel_rfl) o
@[go_sem] theorem T22ln1 (o n cs) : aLen Tryd.prog o 22 (.sl n cs) = some (.int .i64 n) := ln_sl (e := 31) (by kernel_rfl) o n cs
@[go_sem] theorem T22ln2 (o k g off n) : aLen Tryd.prog o 22 (.ref k g off n) = some (.int .i64 n) := ln_ref (e := 31) (by kernel_rfl) o k g off n
@[go_sem] theorem T22ix1 (n cs i) : aIndexAddr Tryd.prog 22 (.sl n cs) i = if 0 ≤ i ∧ i < (n : Int) then some (.fptr (cs.drop (i.toNat * 5))) else none := ixs_sl (s := 5) (by kernel_rfl) n cs i
@[go_sem] theorem T22ix2 (k g off n i) : aIndexAddr Tryd.prog 22 (.ref k g off n) i = if 0 ≤ i ∧ i < (n : Int) then some (.ptr k g (off + i.toNat * 5)) else none := ixs_ref (s := 5) (by kernel_rfl) k g off n i
@[go_sem] theorem T22sl1 (n cs lo hi) : aSlice Tryd.prog 22 (.sl n cs) lo hi = if 0 ≤ lo.getD 0 ∧ lo.getD 0 ≤ hi.getD n ∧ hi.getD n ≤ n then some (.sl ((hi.getD n).toNat - (lo.getD 0).toNat) ((cs.take ((hi.getD n).toNat * 5)).drop ((lo.getD 0).toNat * 5))) else none := sl_sl (s := 5) (by kernel_rfl) n cs lo hi
@[go_sem] theorem T22sl2 (k g off n lo hi) : aSlice Tryd.prog 22 (.ref k g off n) lo hi = if 0 ≤ lo.getD 0 ∧ lo.getD 0 ≤ hi.getD n ∧ hi.getD n ≤ n then some (.ref k g (off + (lo.getD 0).toNat * 5) ((hi.getD n).toNat - (lo.getD 0).toNat)) else none := sl_ref (s := 4) (by kernel_rfl) k g off n lo hi
@[go_sem] theorem T22cp (k g off n x o nx) : aCopy Tryd.prog 22 (.ref k g off n) x ⟨o, nx⟩ = (srcOf o x).bind fun q => (rowIf (o k) g).bind (copyR k off n 5 q.1 q.2 o nx) := cp_ref (by kernel_rfl) k g off n x o nx
@[go_sem] theorem T22ms (tg l c o nx) : aMakeSlice Tryd.prog tg 22 l c ⟨o, nx⟩ = if 0 ≤ l ∧ l ≤ c ∧ c * 40 ≤ maxB ∧ c ≤ maxB then some (.ref tg tg 0 l.toNat, ⟨upd o tg (.row ⟨31, 5, tg, false, true, rep [AV.int .i64 0, AV.int .i64 0, AV.int .i64 0, AV.int .i64 0, AV.int .i64 0] l.toNat⟩), nx⟩) else none := ms_eq (e := 31) (s := 4) (b := 40) (z := [AV.int .i64 0, AV.int .i64 0, AV.int .i64 0, AV.int .i64 0, AV.int .i64 0]) (by kernel_rfl) (by kernel_rfl) (by kernel_rfl) (by kernel_rfl) rfl tg l c o nx
@[go_sem] theorem T22bs (tg n ps o nx) : aBuildSlice Tryd.prog tg 22 n ps ⟨o, nx⟩ = if n * 5 ≤ 16777216 then (fillA (fun i => some (i * 5, 5)) (rep [AV.int .i64 0, AV.int .i64 0, AV.int .i64 0, AV.int .i64 0, AV.int .i64 0] n) ps).map (fun cs => (.ref tg tg 0 n, ⟨upd o tg (.row ⟨31, 5, tg, false, true, cs⟩), nx⟩)) else none := bs_eq (e := 31) (s := 4) (z := [AV.int .i64 0, AV.int .i64 0, AV.int .i64 0, AV.int .i64 0, AV.int .i64 0]) (by kernel_rfl) (by kernel_rfl) (by kernel_rfl) rfl tg n ps o nx
@[go_sem] theorem T22ap (tg x y o nx) : aAppend Tryd.prog tg 22 22 x y ⟨o, nx⟩ = (srcOf o y).bind fun q => appW tg 31 5 40 x q.1 q.2 o nx := ap_eq (e := 31) (s := 4) (b := 39) (z := [AV.int .i64 0, AV.int .i64 0, AV.int .i64 0, AV.int .i64 0, AV.int .i64 0]) (by kernel_rfl) (by kernel_rfl) (by kernel_rfl) (by kernel_rfl) rfl (by kernel_rfl) tg x y o nx
@[go_sem] theorem T23s : tSize Tryd.prog 23 = some 1 := by kernel_rfl
@[go_sem] theorem T23a : tAgg Tryd.prog 23 = some false := by kernel_rfl
@[go_sem] theorem T23z : tZero Tryd.prog 23 = some [AV.nil] := by kernel_rfl
@[go_sem] theorem T23ln0 (o) : aLen Tryd.prog o 23 .nil = some (.int .i64 0) := ln_nil (e := 4) (by kernel_rfl) o
@[go_sem] theorem T23ln1 (o n cs) : aLen Tryd.prog o 23 (.sl n cs) = some (.int .i64 n) := ln_sl (e := 4) (by kernel_rfl) o n cs
@[go_sem] theorem T23ln2 (o k g off n) : aLen Tryd.prog o 23 (.ref k g off n) = some (.int .i64 n) := ln_ref (e := 4) (by kernel_rfl) o k g off n
@[go_sem] theorem T23ix1 (n cs i) : aIndexAddr Tryd.prog 23 (.sl n cs) i = if 0 ≤ i ∧ i < (n : Int) then some (.fptr (cs.drop (i.toNat * 1))) else none := ixs_sl (s := 1) (by kernel_rfl) n cs i
@[go_sem] theorem T23ix2 (k g off n i) : aIndexAddr Tryd.prog 23 (.ref k g off n) i = if 0 ≤ i ∧ i < (n : Int) then some (.ptr k g (off + i.toNat * 1)) else none := ixs_ref (s := 1) (by kernel_rfl) k g off n i
@[go_sem] theorem T23sl1 (n cs lo hi) : aSlice Tryd.prog 23 (.sl n cs) lo hi = if 0 ≤ lo.getD 0 ∧ lo.getD 0 ≤ hi.getD n ∧ hi.getD n ≤ n then some (.sl ((hi.getD n).toNat - (lo.getD 0).toNat) ((cs.take ((hi.getD n).toNat * 1)).drop ((lo.getD 0).toNat * 1))) else none := sl_sl (s := 1) (by kernel_rfl) n cs lo hi
@[go_sem] theorem T23sl2 (k g off n lo hi) : aSlice Tryd.prog 23 (.ref k g off n) lo hi = if 0 ≤ lo.getD 0 ∧ lo.getD 0 ≤ hi.getD n ∧ hi.getD n ≤ n then some (.ref k g (off + (lo.getD 0).toNat * 1) ((hi.getD n).toNat - (lo.getD 0).toNat)) else none := sl_ref (s := 0) (by kernel_rfl) k g off n lo hi
@[go_sem] theorem T23cp (k g off n x o nx) : aCopy Tryd.prog 23 (.ref k g off n) x ⟨o, nx⟩ = (srcOf o x).bind fun q => (rowIf (o k) g).bind (copyR k off n 1 q.1 q.2 o nx) := cp_ref (by kernel_rfl) k g off n x o nx
@[go_sem] theorem T23ms (tg l c o nx) : aMakeSlice Tryd.prog tg 23 l c ⟨o, nx⟩ = if 0 ≤ l ∧ l ≤ c ∧ c * 1 ≤ maxB ∧ c ≤ maxB then some (.ref tg tg 0 l.toNat, ⟨upd o tg (.row ⟨4, 1, tg, false, true, rep [AV.bool false] l.toNat⟩), nx⟩) else none := ms_eq (e := 4) (s := 0) (b := 1) (z := [AV.bool false]) (by kernel_rfl) (by kernel_rfl) (by kernel_rfl) (by kernel_rfl) rfl tg l c o nx
@[go_sem] theorem T23bs (tg n ps o nx) : aBuildSlice Tryd.prog tg 23 n ps ⟨o, nx⟩ = if n * 1 ≤ 16777216 then (fillA (fun i => some (i * 1, 1)) (rep [AV.bool false] n) ps).map (fun cs => (.ref tg tg 0 n, ⟨upd o tg (.row ⟨4, 1, tg, false, true, cs⟩), nx⟩)) else none := bs_eq (e := 4) (s := 0) (z := [AV.bool false]) (by kernel_rfl) (by kernel_rfl) (by kernel_rfl) rfl tg n ps o nx
@[go_sem] theorem T23ap (tg x y o nx) : aAppend Tryd.prog tg 23 23 x y ⟨o, nx⟩ = (srcOf o y).bind fun q => appW tg 4 1 1 x q.1 q.2 o nx := ap_eq (e := 4) (s := 0) (b := 0) (z := [AV.bool false]) (by kernel_rfl) (by kernel_rfl) (by kernel_rfl) (by kernel_rfl) rfl (by kernel_rfl) tg x y o nx
@[go_sem] theorem T24s : tSize Tryd.prog 24 = some 2 := by kernel_rfl
@[go_sem] theorem T24a : tAgg Tryd.prog 24 = some true := by kernel_rfl
@[go_sem] theorem T24z : tZero Tryd.prog 24 = some [AV.nil, AV.nil] := by kernel_rfl
@[go_sem] theorem T24f0p (k g off) : fieldAddrA Tryd.prog 24 0 (.ptr k g off) = some (.ptr k g (off + 0)) := fa_ptr (s := 0) (ft := 22) (by kernel_rfl) (by kernel_rfl) k g off
@[go_sem] theorem T24f0q (cs) : fieldAddrA Tryd.prog 24 0 (.fptr cs) = some (.fptr (cs.drop 0)) := fa_fptr (s := 0) (ft := 22) (by kernel_rfl) (by kernel_rfl) cs
@[go_sem] theorem T24f0v (cs) : fieldA Tryd.prog 24 0 (.agg cs) = takeT Tryd.prog 22 (cs.drop 0) := fi_agg (by kernel_rfl) cs
@[go_sem] theorem T24f1p (k g off) : fieldAddrA Tryd.prog 24 1 (.ptr k g off) = some (.ptr k g (off + 1)) := fa_ptr (s := 0) (ft := 23) (by kernel_rfl) (by kernel_rfl) k g off
@[go_sem] theorem T24f1q (cs) : fieldAddrA Tryd.prog 24 1 (.fptr cs) = some (.fptr (cs.drop 1)) := fa_fptr (s := 0) (ft := 23) (by kernel_rfl) (by kernel_rfl) cs
@[go_sem] theorem T24f1v (cs) : fieldA Tryd.prog 24 1 (.agg cs) = takeT Tryd.prog 23 (cs.drop 1) := fi_agg (by kernel_rfl) cs
@[go_sem] theorem T24bd (xs) : aBuild Tryd.prog 24 xs = (fillA (fun i => ([(0, 1), (1, 1)] : List (Nat × Nat))[i]?) [AV.nil, AV.nil] xs).map .agg := by kernel_rfl
@[go_sem] theorem T25s : tSize Tryd.prog 25 = some 2 := by kernel_rfl
@[go_sem] theorem T25a : tAgg Tryd.prog 25 = some true := by kernel_rfl
@[go_sem] theorem T25z : tZero Tryd.prog 25 = some [AV.nil, AV.nil] := by kernel_rfl
@[go_sem] theorem T25f0p (k g off) : fieldAddrA Tryd.prog 25 0 (.ptr k g off) = some (.ptr k g (off + 0)) := fa_ptr (s := 0) (ft := 22) (by kernel_rfl) (by kernel_rfl) k g off
@[go_sem] theorem T25f0q (cs) : fieldAddrA Tryd.prog 25 0 (.fptr cs) = some (.fptr (cs.drop 0)) := fa_fptr (s := 0) (ft := 22) (by kernel_rfl) (by kernel_rfl) cs
@[go_sem] theorem T25f0v (cs) : fieldA Tryd.prog 25 0 (.agg cs) = takeT Tryd.prog 22 (cs.drop 0) := fi_agg (by kernel_rfl) cs
@[go_sem] theorem T25f1p (k g off) : fieldAddrA Tryd.prog 25 1 (.ptr k g off) = some (.ptr k g (off + 1)) := fa_ptr (s := 0) (ft := 23) (by kernel_rfl) (by kernel_rfl) k g off
@[go_sem] theorem T25f1q (cs) : fieldAddrA Tryd.prog 25 1 (.fptr cs) = some (.fptr (cs.drop 1)) := fa_fptr (s := 0) (ft := 23) (by kernel_rfl) (by kernel_rfl) cs
@[go_sem] theorem T25f1v (cs) : fieldA Tryd.prog 25 1 (.agg cs) = takeT Tryd.prog 23 (cs.drop 1) := fi_agg (by kernel_rfl) cs
@[go_sem] theorem T25bd (xs) : aBuild Tryd.prog 25 xs = (fillA (fun i => ([(0, 1), (1, 1)] : List (Nat × Nat))[i]?) [AV.nil, AV.nil] xs).map .agg := by kernel_rfl
@[go_sem] theorem T26s : tSize Tryd.prog 26 = some 1 := by kernel_rfl
@[go_sem] theorem T26a : tAgg Tryd.prog 26 = some false := by kernel_rfl
@[go_sem] theorem T26z : tZero Tryd.prog 26 = some [AV.nil] := by kernel_rfl
@[go_sem] theorem T26ln0 (o) : aLen Tryd.prog o 26 .nil = some (.int .i64 0) := ln_nil (e := 3) (by kernel_rfl) o
@[go_sem] theorem T26ln1 (o n cs) : aLen Tryd.prog o 26 (.sl n cs) = some (.int .i64 n) := ln_sl (e := 3) (by kernel_rfl) o n cs
@[go_sem] theorem T26ln2 (o k g off n) : aLen Tryd.prog o 26 (.ref k g off n) = some (.int .i64 n) := ln_ref (e := 3) (by kernel_rfl) o k g off n
@[go_sem] theorem T26ix1 (n cs i) : aIndexAddr Tryd.prog 26 (.sl n cs) i = if 0 ≤ i ∧ i < (n : Int) then some (.fptr (cs.drop (i.toNat * 1))) else none := ixs_sl (s := 1) (by kernel_rfl) n cs i
@[go_sem] theorem T26ix2 (k g off n i) : aIndexAddr Tryd.prog 26 (.ref k g off n) i = if 0 ≤ i ∧ i < (n : Int) then some (.ptr k g (off + i.toNat * 1)) else none := ixs_ref (s := 1) (by kernel_rfl) k g off n i
@[go_sem] theorem T26sl1 (n cs lo hi) : aSlice Tryd.prog 26 (.sl n cs) lo hi = if 0 ≤ lo.getD 0 ∧ lo.getD 0 ≤ hi.getD n ∧ hi.getD n ≤ n then some (.sl ((hi.getD n).toNat - (lo.getD 0).toNat) ((cs.take ((hi.getD n).toNat * 1)).drop ((lo.getD 0).toNat * 1))) else none := sl_sl (s := 1) (by kernel_rfl) n cs lo hi
@[go_sem] theorem T26sl2 (k g off n lo hi) : aSlice Tryd.prog 26 (.ref k g off n) lo hi = if 0 ≤ lo.getD 0 ∧ lo.getD 0 ≤ hi.getD n ∧ hi.getD n ≤ n then some (.ref k g (off + (lo.getD 0).toNat * 1) ((hi.getD n).toNat - (lo.getD 0).toNat)) else none := sl_ref (s := 0) (by kernel_rfl) k g off n lo hi
@[go_sem] theorem T26cp (k g off n x o nx) : aCopy Tryd.prog 26 (.ref k g off n) x ⟨o, nx⟩ = (srcOf o x).bind fun q => (rowIf (o k) g).bind (copyR k off n 1 q.1 q.2 o nx) := cp_ref (by kernel_rfl) k g off n x o nx
@[go_sem] theorem T26ms (tg l c o nx) : aMakeSlice Tryd.prog tg 26 l c ⟨o, nx⟩ = if 0 ≤ l ∧ l ≤ c ∧ c * 8 ≤ maxB ∧ c ≤ maxB then some (.ref tg tg 0 l.toNat, ⟨upd o tg (.row ⟨3, 1, tg, false, true, rep [AV.int .i64 0] l.toNat⟩), nx⟩) else none := ms_eq (e := 3) (s := 0) (b := 8) (z := [AV.int .i64 0]) (by kernel_rfl) (by kernel_rfl) (by kernel_rfl) (by kernel_rfl) rfl tg l c o nx
@[go_sem] theorem T26bs (tg n ps o nx) : aBuildSlice Tryd.prog tg 26 n ps ⟨o, nx⟩ = if n * 1 ≤ 16777216 then (fillA (fun i => some (i * 1, 1)) (rep [AV.int .i64 0] n) ps).map (fun cs => (.ref tg tg 0 n, ⟨upd o tg (.row ⟨3, 1, tg, false, true, cs⟩), nx⟩)) else none := bs_eq (e := 3) (s := 0) (z := [AV.int .i64 0]) (by kernel_rfl) (by kernel_rfl) (by kernel_rfl) rfl tg n ps o nx
@[go_sem] theorem T26ap (tg x y o nx) : aAppend Tryd.prog tg 26 26 x y ⟨o, nx⟩ = (srcOf o y).bind fun q => appW tg 3 1 8 x q.1 q.2 o nx := ap_eq (e := 3) (s := 0) (b := 7) (z := [AV.int .i64 0]) (by kernel_rfl) (by kernel_rfl) (by kernel_rfl) (by kernel_rfl) rfl (by kernel_rfl) tg x y o nx
@[go_sem] theorem T31s : tSize Tryd.prog 31 = some 5 := by kernel_rfl
@[go_sem] theorem T31a : tAgg Tryd.prog 31 = some true := by kernel_rfl
@[go_sem] theorem T31z : tZero Tryd.prog 31 = some [AV.int .i64 0, AV.int .i64 0, AV.int .i64 0, AV.int .i64 0, AV.int .i64 0] := by kernel_rfl
@[go_sem] theorem T31ln (o x) : aLen Tryd.prog o 31 x = some (.int .i64 5) := ln_arr (e := 3) (by kernel_rfl) o x
@[go_sem] theorem T31ix1 (cs i) : aIndexAddr Tryd.prog 31 (.fptr cs) i = if 0 ≤ i ∧ i < 5 then some (.fptr (cs.drop (i.toNat * 1))) else none := ixa_fptr (n := 5) (e := 3) (s := 1) (by kernel_rfl) (by kernel_rfl) cs i
@[go_sem] theorem T31ix2 (k g off i) : aIndexAddr Tryd.prog 31 (.ptr k g off) i = if 0 ≤ i ∧ i < 5 then some (.ptr k g (off + i.toNat * 1)) else none := ixa_ptr (n := 5) (e := 3) (s := 1) (by kernel_rfl) (by kernel_rfl) k g off i
@[go_sem] theorem T31iv (cs i) : aIndex Tryd.prog 31 (.agg cs) i = if 0 ≤ i ∧ i < 5 then takeT Tryd.prog 3 (cs.drop (i.toNat * 1)) else none := ixv_agg (n := 5) (e := 3) (s := 1) (by kernel_rfl) (by kernel_rfl) cs i
@[go_sem] theorem T31bd (xs) : aBuild Tryd.prog 31 xs = (fillA (fun i => some (i * 1, 1)) [AV.int .i64 0, AV.int .i64 0, AV.int .i64 0, AV.int .i64 0, AV.int .i64 0] xs).map .agg := bd_array (n := 5) (e := 3) (by kernel_rfl) (by kernel_rfl) (by kernel_rfl) xs
@[go_sem] theorem T31lf : eqLeaves Tryd.prog 31 = some [Leaf.int, Leaf.int, Leaf.int, Leaf.int, Leaf.int] := by kernel_rfl
@[go_sem] theorem T34s : tSize Tryd.prog 34 = some 1 := by kernel_rfl
@[go_sem] theorem T34a : tAgg Tryd.prog 34 = some false := by kernel_rfl
@[go_sem] theorem T34z : tZero Tryd.prog 34 = some [AV.nil] := by kernel_rfl
@[go_sem] theorem T34ln0 (o) : aLen Tryd.prog o 34 .nil = some (.int .i64 0) := ln_nil (e := 26) (by kernel_rfl) o
@[go_sem] theorem T34ln1 (o n cs) : aLen Tryd.prog o 34 (.sl n cs) = some (.int .i64 n) := ln_sl (e := 26) (by kernel_rfl) o n cs
@[go_sem] theorem T34ln2 (o k g off n) : aLen Tryd.prog o 34 (.ref k g off n) = some (.int .i64 n) := ln_ref (e := 26) (by kernel_rfl) o k g off n
@[go_sem] theorem T34ix1 (n cs i) : aIndexAddr Tryd.prog 34 (.sl n cs) i = if 0 ≤ i ∧ i < (n : Int) then some (.fptr (cs.drop (i.toNat * 1))) else none := ixs_sl (s := 1) (by kernel_rfl) n cs i
@[go_sem] theorem T34ix2 (k g off n i) : aIndexAddr Tryd.prog 34 (.ref k g off n) i = if 0 ≤ i ∧ i < (n : Int) then some (.ptr k g (off + i.toNat * 1)) else none := ixs_ref (s := 1) (by kernel_rfl) k g off n i
@[go_sem] theorem T34sl1 (n cs lo hi) : aSlice Tryd.prog 34 (.sl n cs) lo hi = if 0 ≤ lo.getD 0 ∧ lo.getD 0 ≤ hi.getD n ∧ hi.getD n ≤ n then some (.sl ((hi.getD n).toNat - (lo.getD 0).toNat) ((cs.take ((hi.getD n).toNat * 1)).drop ((lo.getD 0).toNat * 1))) else none := sl_sl (s := 1) (by kernel_rfl) n cs lo hi
@[go_sem] theorem T34sl2 (k g off n lo hi) : aSlice Tryd.prog 34 (.ref k g off n) lo hi = if 0 ≤ lo.getD 0 ∧ lo.getD 0 ≤ hi.getD n ∧ hi.getD n ≤ n then some (.ref k g (off + (lo.getD 0).toNat * 1) ((hi.getD n).toNat - (lo.getD 0).toNat)) else none := sl_ref (s := 0) (by kernel_rfl) k g off n lo hi
@[go_sem] theorem T34cp (k g off n x o nx) : aCopy Tryd.prog 34 (.ref k g off n) x ⟨o, nx⟩ = (srcOf o x).bind fun q => (rowIf (o k) g).bind (copyR k off n 1 q.1 q.2 o nx) := cp_ref (by kernel_rfl) k g off n x o nx
@[go_sem] theorem T34ms (tg l c o nx) : aMakeSlice Tryd.prog tg 34 l c ⟨o, nx⟩ = if 0 ≤ l ∧ l ≤ c ∧ c * 24 ≤ maxB ∧ c ≤ maxB then some (.ref tg tg 0 l.toNat, ⟨upd o tg (.row ⟨26, 1, tg, false, true, rep [AV.nil] l.toNat⟩), nx⟩) else none := ms_eq (e := 26) (s := 0) (b := 24) (z := [AV.nil]) (by kernel_rfl) (by kernel_rfl) (by kernel_rfl) (by kernel_rfl) rfl tg l c o nx
@[go_sem] theorem T34bs (tg n ps o nx) : aBuildSlice Tryd.prog tg 34 n ps ⟨o, nx⟩ = if n * 1 ≤ 16777216 then (fillA (fun i => some (i * 1, 1)) (rep [AV.nil] n) ps).map (fun cs => (.ref tg tg 0 n, ⟨upd o tg (.row ⟨26, 1, tg, false, true, cs⟩), nx⟩)) else none := bs_eq (e := 26) (s := 0) (z := [AV.nil]) (by kernel_rfl) (by kernel_rfl) (by kernel_rfl) rfl tg n ps o nx
@[go_sem] theorem T34ap (tg x y o nx) : aAppend Tryd.prog tg 34 34 x y ⟨o, nx⟩ = (srcOf o y).bind fun q => appW tg 26 1 24 x q.1 q.2 o nx := ap_eq (e := 26) (s := 0) (b := 23) (z := [AV.nil]) (by kernel_rfl) (by kernel_rfl) (by kernel_rfl) (by kernel_rfl) rfl (by kernel_rfl) tg x y o nx
@[go_sem] theorem T39s : tSize Tryd.prog 39 = some 1 := by kernel_rfl
@[go_sem] theorem T39a : tAgg Tryd.prog 39 = some false := by kernel_rfl
@[go_sem] theorem T39z : tZero Tryd.prog 39 = some [AV.nil] := by kernel_rfl
@[go_sem] theorem T39ln0 (o) : aLen Tryd.prog o 39 .nil = some (.int .i64 0) := ln_nil (e := 70) (by kernel_rfl) o
@[go_sem] theorem T39ln1 (o n cs) : aLen Tryd.prog o 39 (.sl n cs) = some (.int .i64 n) := ln_sl (e := 70) (by kernel_rfl) o n cs
@[go_sem] theorem T39ln2 (o k g off n) : aLen Tryd.prog o 39 (.ref k g off n) = some (.int .i64 n) := ln_ref (e := 70) (by kernel_rfl) o k g off n
@[go_sem] theorem T39ix1 (n cs i) : aIndexAddr Tryd.prog 39 (.sl n cs) i = if 0 ≤ i ∧ i < (n : Int) then some (.fptr (cs.drop (i.toNat * 3))) else none := ixs_sl (s := 3) (by kernel_rfl) n cs i
@[go_sem] theorem T39ix2 (k g off n i) : aIndexAddr Tryd.prog 39 (.ref k g off n) i = if 0 ≤ i ∧ i < (n : Int) then some (.ptr k g (off + i.toNat * 3)) else none := ixs_ref (s := 3) (by kernel_rfl) k g off n i
@[go_sem] theorem T39sl1 (n cs lo hi) : aSlice Tryd.prog 39 (.sl n cs) lo hi = if 0 ≤ lo.getD 0 ∧ lo.getD 0 ≤ hi.getD n ∧ hi.getD n ≤ n then some (.sl ((hi.getD n).toNat - (lo.getD 0).toNat) ((cs.take ((hi.getD n).toNat * 3)).drop ((lo.getD 0).toNat * 3))) else none := sl_sl (s := 3) (by kernel_rfl) n cs lo hi
@[go_sem] theorem T39sl2 (k g off n lo hi) : aSlice Tryd.prog 39 (.ref k g off n) lo hi = if 0 ≤ lo.getD 0 ∧ lo.getD 0 ≤ hi.getD n ∧ hi.getD n ≤ n then some (.ref k g (off + (lo.getD 0).toNat * 3) ((hi.getD n).toNat - (lo.getD 0).toNat)) else none := sl_ref (s := 2) (by kernel_rfl) k g off n lo hi
@[go_sem] theorem T39cp (k g off n x o nx) : aCopy Tryd.prog 39 (.ref k g off n) x ⟨o, nx⟩ = (srcOf o x).bind fun q => (rowIf (o k) g).bind (copyR k off n 3 q.1 q.2 o nx) := cp_ref (by kernel_rfl) k g off n x o nx
@[go_sem] theorem T39ms (tg l c o nx) : aMakeSlice Tryd.prog tg 39 l c ⟨o, nx⟩ = if 0 ≤ l ∧ l ≤ c ∧ c * 24 ≤ maxB ∧ c ≤ maxB then some (.ref tg tg 0 l.toNat, ⟨upd o tg (.row ⟨70, 3, tg, false, true, rep [AV.int .i64 0, AV.int .i64 0, AV.int .i64 0] l.toNat⟩), nx⟩) else none := ms_eq (e := 70) (s := 2) (b := 24) (z := [AV.int .i64 0, AV.int .i64 0, AV.int .i64 0]) (by kernel_rfl) (by kernel_rfl) (by kernel_rfl) (by kernel_rfl) rfl tg l c o nx
@[go_sem] theorem T39bs (tg n ps o nx) : aBuildSlice Tryd.prog tg 39 n ps ⟨o, nx⟩ = if n * 3 ≤ 16777216 then (fillA (fun i => some (i * 3, 3)) (rep [AV.int .i64 0, AV.int .i64 0, AV.int .i64 0] n) ps).map (fun cs => (.ref tg tg 0 n, ⟨upd o tg (.row ⟨70, 3, tg, false, true, cs⟩), nx⟩)) else none := bs_eq (e := 70) (s := 2) (z := [AV.int .i64 0, AV.int .i64 0, AV.int .i64 0]) (by kernel_rfl) (by kernel_rfl) (by kernel_rfl) rfl tg n ps o nx
@[go_sem] theorem T39ap (tg x y o nx) : aAppend Tryd.prog tg 39 39 x y ⟨o, nx⟩ = (srcOf o y).bind fun q => appW tg 70 3 24 x q.1 q.2 o nx := ap_eq (e := 70) (s := 2) (b := 23) (z := [AV.int .i64 0, AV.int .i64 0, AV.int .i64 0]) (by kernel_rfl) (by kernel_rfl) (by kernel_rfl) (by kernel_rfl) rfl (by kernel_rfl) tg x y o nx
@[go_sem] theorem T40s : tSize Tryd.prog 40 = some 1 := by kernel_rfl
@[go_sem] theorem T40a : tAgg Tryd.prog 40 = some false := by kernel_rfl
@[go_sem] theorem T40z : tZero Tryd.prog 40 = some [AV.nil] := by kernel_rfl
@[go_sem] theorem T40ln0 (o) : aLen Tryd.prog o 40 .nil = some (.int .i64 0) := ln_nil (e := 68) (by kernel_rfl) o
@[go_sem] theorem T40ln1 (o n cs) : aLen Tryd.prog o 40 (.sl n cs) = some (.int .i64 n) := ln_sl (e := 68) (by kernel_rfl) o n cs
@[go_sem] theorem T40ln2 (o k g off n) : aLen Tryd.prog o 40 (.ref k g off n) = some (.int .i64 n) := ln_ref (e := 68) (by kernel_rfl) o k g off n
@[go_sem] theorem T40ix1 (n cs i) : aIndexAddr Tryd.prog 40 (.sl n cs) i = if 0 ≤ i ∧ i < (n : Int) then some (.fptr (cs.drop (i.toNat * 2))) else none := ixs_sl (s := 2) (by kernel_rfl) n cs i
@[go_sem] theorem T40ix2 (k g off n i) : aIndexAddr Tryd.prog 40 (.ref k g off n) i = if 0 ≤ i ∧ i < (n : Int) then some (.ptr k g (off + i.toNat * 2)) else none := ixs_ref (s := 2) (by kernel_rfl) k g off n i
@[go_sem] theorem T40sl1 (n cs lo hi) : aSlice Tryd.prog 40 (.sl n cs) lo hi = if 0 ≤ lo.getD 0 ∧ lo.getD 0 ≤ hi.getD n ∧ hi.getD n ≤ n then some (.sl ((hi.getD n).toNat - (lo.getD 0).toNat) ((cs.take ((hi.getD n).toNat * 2)).drop ((lo.getD 0).toNat * 2))) else none := sl_sl (s := 2) (by kernel_rfl) n cs lo hi
@[go_sem] theorem T40sl2 (k g off n lo hi) : aSlice Tryd.prog 40 (.ref k g off n) lo hi = if 0 ≤ lo.getD 0 ∧ lo.getD 0 ≤ hi.getD n ∧ hi.getD n ≤ n then some (.ref k g (off + (lo.getD 0).toNat * 2) ((hi.getD n).toNat - (lo.getD 0).toNat)) else none := sl_ref (s := 1) (by kernel_rfl) k g off n lo hi
@[go_sem] theorem T40cp (k g off n x o nx) : aCopy Tryd.prog 40 (.ref k g off n) x ⟨o, nx⟩ = (srcOf o x).bind fun q => (rowIf (o k) g).bind (copyR k off n 2 q.1 q.2 o nx) := cp_ref (by kernel_rfl) k g off n x o nx
@[go_sem] theorem T40ms (tg l c o nx) : aMakeSlice Tryd.prog tg 40 l c ⟨o, nx⟩ = if 0 ≤ l ∧ l ≤ c ∧ c * 16 ≤ maxB ∧ c ≤ maxB then some (.ref tg tg 0 l.toNat, ⟨upd o tg (.row ⟨68, 2, tg, false, true, rep [AV.int .i64 0, AV.int .i64 0] l.toNat⟩), nx⟩) else none := ms_eq (e := 68) (s := 1) (b := 16) (z := [AV.int .i64 0, AV.int .i64 0]) (by kernel_rfl) (by kernel_rfl) (by kernel_rfl) (by kernel_rfl) rfl tg l c o nx
@[go_sem] theorem T40bs (tg n ps o nx) : aBuildSlice Tryd.prog tg 40 n ps ⟨o, nx⟩ = if n * 2 ≤ 16777216 then (fillA (fun i => some (i * 2, 2)) (rep [AV.int .i64 0, AV.int .i64 0] n) ps).map (fun cs => (.ref tg tg 0 n, ⟨upd o tg (.row ⟨68, 2, tg, false, true, cs⟩), nx⟩)) else none := bs_eq (e := 68) (s := 1) (z := [AV.int .i64 0, AV.int .i64 0]) (by kernel_rfl) (by kernel_rfl) (by kernel_rfl) rfl tg n ps o nx
@[go_sem] theorem T40ap (tg x y o nx) : aAppend Tryd.prog tg 40 40 x y ⟨o, nx⟩ = (srcOf o y).bind fun q => appW tg 68 2 16 x q.1 q.2 o nx := ap_eq (e := 68) (s := 1) (b := 15) (z := [AV.int .i64 0, AV.int .i64 0]) (by kernel_rfl) (by kernel_rfl) (by kernel_rfl) (by kernel_rfl) rfl (by kernel_rfl) tg x y o nx
@[go_sem] theorem T41s : tSize Tryd.prog 41 = some 5 := by kernel_rfl
@[go_sem] theorem T41a : tAgg Tryd.prog 41 = some true := by kernel_rfl
@[go_sem] theorem T41z : tZero Tryd.prog 41 = some [AV.int .i64 0, AV.int .i64 0, AV.int .i64 0, AV.nil, AV.nil] := by kernel_rfl
@[go_sem] theorem T41f0p (k g off) : fieldAddrA Tryd.prog 41 0 (.ptr k g off) = some (.ptr k g (off + 0)) := fa_ptr (s := 0) (ft := 3) (by kernel_rfl) (by kernel_rfl) k g off
@[go_sem] theorem T41f0q (cs) : fieldAddrA Tryd.prog 41 0 (.fptr cs) = some (.fptr (cs.drop 0)) := fa_fptr (s := 0) (ft := 3) (by kernel_rfl) (by kernel_rfl) cs
@[go_sem] theorem T41f0v (cs) : fieldA Tryd.prog 41 0 (.agg cs) = takeT Tryd.prog 3 (cs.drop 0) := fi_agg (by kernel_rfl) cs
@[go_sem] theorem T41f1p (k g off) : fieldAddrA Tryd.prog 41 1 (.ptr k g off) = some (.ptr k g (off + 1)) := fa_ptr (s := 0) (ft := 3) (by kernel_rfl) (by kernel_rfl) k g off
@[go_sem] theorem T41f1q (cs) : fieldAddrA Tryd.prog 41 1 (.fptr cs) = some (.fptr (cs.drop 1)) := fa_fptr (s := 0) (ft := 3) (by kernel_rfl) (by kernel_rfl) cs
@[go_sem] theorem T41f1v (cs) : fieldA Tryd.prog 41 1 (.agg cs) = takeT Tryd.prog 3 (cs.drop 1) := fi_agg (by kernel_rfl) cs
@[go_sem] theorem T41f2p (k g off) : fieldAddrA Tryd.prog 41 2 (.ptr k g off) = some (.ptr k g (off + 2)) := fa_ptr (s := 0) (ft := 3) (by kernel_rfl) (by kernel_rfl) k g off
@[go_sem] theorem T41f2q (cs) : fieldAddrA Tryd.prog 41 2 (.fptr cs) = some (.fptr (cs.drop 2)) := fa_fptr (s := 0) (ft := 3) (by kernel_rfl) (by kernel_rfl) cs
@[go_sem] theorem T41f2v (cs) : fieldA Tryd.prog 41 2 (.agg cs) = takeT Tryd.prog 3 (cs.drop 2) := fi_agg (by kernel_rfl) cs
@[go_sem] theorem T41f3p (k g off) : fieldAddrA Tryd.prog 41 3 (.ptr k g off) = some (.ptr k g (off + 3)) := fa_ptr (s := 0) (ft := 39) (by kernel_rfl) (by kernel_rfl) k g off
@[go_sem] theorem T41f3q (cs) : fieldAddrA Tryd.prog 41 3 (.fptr cs) = some (.fptr (cs.drop 3)) := fa_fptr (s := 0) (ft := 39) (by kernel_rfl) (by kernel_rfl) cs
@[go_sem] theorem T41f3v (cs) : fieldA Tryd.prog 41 3 (.agg cs) = takeT Tryd.prog 39 (cs.drop 3) := fi_agg (by kernel_rfl) cs
@[go_sem] theorem T41f4p (k g off) : fieldAddrA Tryd.prog 41 4 (.ptr k g off) = some (.ptr k g (off + 4)) := fa_ptr (s := 0) (ft := 40) (by kernel_rfl) (by kernel_rfl) k g off
@[go_sem] theorem T41f4q (cs) : fieldAddrA Tryd.prog 41 4 (.fptr cs) = some (.fptr (cs.drop 4)) := fa_fptr (s := 0) (ft := 40) (by kernel_rfl) (by kernel_rfl) cs
@[go_sem] theorem T41f4v (cs) : fieldA Tryd.prog 41 4 (.agg cs) = takeT Tryd.prog 40 (cs.drop 4) := fi_agg (by kernel_rfl) cs
@[go_sem] theorem T41bd (xs) : aBuild Tryd.prog 41 xs = (fillA (fun i => ([(0, 1), (1, 1), (2, 1), (3, 1), (4, 1)] : List (Nat × Nat))[i]?) [AV.int .i64 0, AV.int .i64 0, AV.int .i64 0, AV.nil, AV.nil] xs).map .agg := by kernel_rfl
@[go_sem] theorem T42s : tSize Tryd.prog 42 = some 5 := by kernel_rfl
@[go_sem] theorem T42a : tAgg Tryd.prog 42 = some true := by kernel_rfl
@[go_sem] theorem T42z : tZero Tryd.prog 42 = some [AV.int .i64 0, AV.int .i64 0, AV.int .i64 0, AV.nil, AV.nil] := by kernel_rfl
@[go_sem] theorem T42f0p (k g off) : fieldAddrA Tryd.prog 42 0 (.ptr k g off) = some (.ptr k g (off + 0)) := fa_ptr (s := 0) (ft := 3) (by kernel_rfl) (by kernel_rfl) k g off
@[go_sem] theorem T42f0q (cs) : fieldAddrA Tryd.prog 42 0 (.fptr cs) = some (.fptr (cs.drop 0)) := fa_fptr (s := 0) (ft := 3) (by kernel_rfl) (by kernel_rfl) cs
@[go_sem] theorem T42f0v (cs) : fieldA Tryd.prog 42 0 (.agg cs) = takeT Tryd.prog 3 (cs.drop 0) := fi_agg (by kernel_rfl) cs
@[go_sem] theorem T42f1p (k g off) : fieldAddrA Tryd.prog 42 1 (.ptr k g off) = some (.ptr k g (off + 1)) := fa_ptr (s := 0) (ft := 3) (by kernel_rfl) (by kernel_rfl) k g off
@[go_sem] theorem T42f1q (cs) : fieldAddrA Tryd.prog 42 1 (.fptr cs) = some (.fptr (cs.drop 1)) := fa_fptr (s := 0) (ft := 3) (by kernel_rfl) (by kernel_rfl) cs
@[go_sem] theorem T42f1v (cs) : fieldA Tryd.prog 42 1 (.agg cs) = takeT Tryd.prog 3 (cs.drop 1) := fi_agg (by kernel_rfl) cs
@[go_sem] theorem T42f2p (k g off) : fieldAddrA Tryd.prog 42 2 (.ptr k g off) = some (.ptr k g (off + 2)) := fa_ptr (s := 0) (ft := 3) (by kernel_rfl) (by kernel_rfl) k g off
@[go_sem] theorem T42f2q (cs) : fieldAddrA Tryd.prog 42 2 (.fptr cs) = some (.fptr (cs.drop 2)) := fa_fptr (s := 0) (ft := 3) (by kernel_rfl) (by kernel_rfl) cs
@[go_sem] theorem T42f2v (cs) : fieldA Tryd.prog 42 2 (.agg cs) = takeT Tryd.prog 3 (cs.drop 2) := fi_agg (by kernel_rfl) cs
@[go_sem] theorem T42f3p (k g off) : fieldAddrA Tryd.prog 42 3 (.ptr k g off) = some (.ptr k g (off + 3)) := fa_ptr (s := 0) (ft := 39) (by kernel_rfl) (by kernel_rfl) k g off
@[go_sem] theorem T42f3q (cs) : fieldAddrA Tryd.prog 42 3 (.fptr cs) = some (.fptr (cs.drop 3)) := fa_fptr (s := 0) (ft := 39) (by kernel_rfl) (by kernel_rfl) cs
@[go_sem] theorem T42f3v (cs) : fieldA Tryd.prog 42 3 (.agg cs) = takeT Tryd.prog 39 (cs.drop 3) := fi_agg (by kernel_rfl) cs
@[go_sem] theorem T42f4p (k g off) : fieldAddrA Tryd.prog 42 4 (.ptr k g off) = some (.ptr k g (off + 4)) := fa_ptr (s := 0) (ft := 40) (by kernel_rfl) (by kernel_rfl) k g off
@[go_sem] theorem T42f4q (cs) : fieldAddrA Tryd.prog 42 4 (.fptr cs) = some (.fptr (cs.drop 4)) := fa_fptr (s := 0) (ft := 40) (by kernel_rfl) (by kernel_rfl) cs
@[go_sem] theorem T42f4v (cs) : fieldA Tryd.prog 42 4 (.agg cs) = takeT Tryd.prog 40 (cs.drop 4) := fi_agg (by kernel_rfl) cs
@[go_sem] theorem T42bd (xs) : aBuild Tryd.prog 42 xs = (fillA (fun i => ([(0, 1), (1, 1), (2, 1), (3, 1), (4, 1)] : List (Nat × Nat))[i]?) [AV.int .i64 0, AV.int .i64 0, AV.int .i64 0, AV.nil, AV.nil] xs).map .agg := by kernel_rfl
@[go_sem] theorem T44s : tSize Tryd.prog 44 = some 1 := by kernel_rfl
@[go_sem] theorem T44a : tAgg Tryd.prog 44 = some false := by kernel_rfl
@[go_sem] theorem T44z : tZero Tryd.prog 44 = some [AV.int .i64 0] := by kernel_rfl
@[go_sem] theorem T44u : Tryd.prog.underlying 44 = some (.int .i64) := by kernel_rfl
@[go_sem] theorem T51s : tSize Tryd.prog 51 = some 1 := by kernel_rfl
@[go_sem] theorem T51a : tAgg Tryd.prog 51 = some false := by kernel_rfl
@[go_sem] theorem T51z : tZero Tryd.prog 51 = some [AV.nil] := by kernel_rfl
@[go_sem] theorem T51ln0 (o) : aLen Tryd.prog o 51 .nil = some (.int .i64 0) := ln_nil (e := 86) (by kernel_rfl) o
@[go_sem] theorem T51ln1 (o n cs) : aLen Tryd.prog o 51 (.sl n cs) = some (.int .i64 n) := ln_sl (e := 86) (by kernel_rfl) o n cs
@[go_sem] theorem T51ln2 (o k g off n) : aLen Tryd.prog o 51 (.ref k g off n) = some (.int .i64 n) := ln_ref (e := 86) (by kernel_rfl) o k g off n
@[go_sem] theorem T51ix1 (n cs i) : aIndexAddr Tryd.prog 51 (.sl n cs) i = if 0 ≤ i ∧ i < (n : Int) then some (.fptr (cs.drop (i.toNat * 3))) else none := ixs_sl (s := 3) (by kernel_rfl) n cs i
@[go_sem] theorem T51ix2 (k g off n i) : aIndexAddr Tryd.prog 51 (.ref k g off n) i = if 0 ≤ i ∧ i < (n : Int) then some (.ptr k g (off + i.toNat * 3)) else none := ixs_ref (s := 3) (by kernel_rfl) k g off n i
@[go_sem] theorem T51sl1 (n cs lo hi) : aSlice Tryd.prog 51 (.sl n cs) lo hi = if 0 ≤ lo.getD 0 ∧ lo.getD 0 ≤ hi.getD n ∧ hi.getD n ≤ n then some (.sl ((hi.getD n).toNat - (lo.getD 0).toNat) ((cs.take ((hi.getD n).toNat * 3)).drop ((lo.getD 0).toNat * 3))) else none := sl_sl (s := 3) (by kernel_rfl) n cs lo hi
@[go_sem] theorem T51sl2 (k g off n lo hi) : aSlice Tryd.prog 51 (.ref k g off n) lo hi = if 0 ≤ lo.getD 0 ∧ lo.getD 0 ≤ hi.getD n ∧ hi.getD n ≤ n then some (.ref k g (off + (lo.getD 0).toNat * 3) ((hi.getD n).toNat - (lo.getD 0).toNat)) else none := sl_ref (s := 2) (by kernel_rfl) k g off n lo hi
@[go_sem] theorem T51cp (k g off n x o nx) : aCopy Tryd.prog 51 (.ref k g off n) x ⟨o, nx⟩ = (srcOf o x).bind fun q => (rowIf (o k) g).bind (copyR k off n 3 q.1 q.2 o nx) := cp_ref (by kernel_rfl) k g off n x o nx
@[go_sem] theorem T51ms (tg l c o nx) : aMakeSlice Tryd.prog tg 51 l c ⟨o, nx⟩ = if 0 ≤ l ∧ l ≤ c ∧ c * 40 ≤ maxB ∧ c ≤ maxB then some (.ref tg tg 0 l.toNat, ⟨upd o tg (.row ⟨86, 3, tg, false, true, rep [AV.int .i64 0, AV.int .i64 0, AV.nil] l.toNat⟩), nx⟩) else none := ms_eq (e := 86) (s := 2) (b := 40) (z := [AV.int .i64 0, AV.int .i64 0, AV.nil]) (by kernel_rfl) (by kernel_rfl) (by kernel_rfl) (by kernel_rfl) rfl tg l c o nx
@[go_sem] theorem T51bs (tg n ps o nx) : aBuildSlice Tryd.prog tg 51 n ps ⟨o, nx⟩ = if n * 3 ≤ 16777216 then (fillA (fun i => some (i * 3, 3)) (rep [AV.int .i64 0, AV.int .i64 0, AV.nil] n) ps).map (fun cs => (.ref tg tg 0 n, ⟨upd o tg (.row ⟨86, 3, tg, false, true, cs⟩), nx⟩)) else none := bs_eq (e := 86) (s := 2) (z := [AV.int .i64 0, AV.int .i64 0, AV.nil]) (by kernel_rfl) (by kernel_rfl) (by kernel_rfl) rfl tg n ps o nx
@[go_sem] theorem T51ap (tg x y o nx) : aAppend Tryd.prog tg 51 51 x y ⟨o, nx⟩ = (srcOf o y).bind fun q => appW tg 86 3 40 x q.1 q.2 o nx := ap_eq (e := 86) (s := 2) (b := 39) (z := [AV.int .i64 0, AV.int .i64 0, AV.nil]) (by kernel_rfl) (by kernel_rfl) (by kernel_rfl) (by kernel_rfl) rfl (by kernel_rfl) tg x y o nx
@[go_sem] theorem T53s : tSize Tryd.prog 53 = some 1 := by kernel_rfl
@[go_sem] theorem T53a : tAgg Tryd.prog 53 = some false := by kernel_rfl
@[go_sem] theorem T53z : tZero Tryd.prog 53 = some [AV.nil] := by kernel_rfl
@[go_sem] theorem T53ln0 (o) : aLen Tryd.prog o 53 .nil = some (.int .i64 0) := ln_nil (e := 55) (by kernel_rfl) o
@[go_sem] theorem T53ln1 (o n cs) : aLen Tryd.prog o 53 (.sl n cs) = some (.int .i64 n) := ln_sl (e := 55) (by kernel_rfl) o n cs
@[go_sem] theorem T53ln2 (o k g off n) : aLen Tryd.prog o 53 (.ref k g off n) = some (.int .i64 n) := ln_ref (e := 55) (by kernel_rfl) o k g off n
@[go_sem] theorem T53ix1 (n cs i) : aIndexAddr Tryd.prog 53 (.sl n cs) i = if 0 ≤ i ∧ i < (n : Int) then some (.fptr (cs.drop (i.toNat * 5))) else none := ixs_sl (s := 5) (by kernel_rfl) n cs i
@[go_sem] theorem T53ix2 (k g off n i) : aIndexAddr Tryd.prog 53 (.ref k g off n) i = if 0 ≤ i ∧ i < (n : Int) then some (.ptr k g (off + i.toNat * 5)) else none := ixs_ref (s := 5) (by kernel_rfl) k g off n i
@[go_sem] theorem T53sl1 (n cs lo hi) : aSlice Tryd.prog 53 (.sl n cs) lo hi = if 0 ≤ lo.getD 0 ∧ lo.getD 0 ≤ hi.getD n ∧ hi.getD n ≤ n then some (.sl ((hi.getD n).toNat - (lo.getD 0).toNat) ((cs.take ((hi.getD n).toNat * 5)).drop ((lo.getD 0).toNat * 5))) else none := sl_sl (s := 5) (by kernel_rfl) n cs lo hi
@[go_sem] theorem T53sl2 (k g off n lo hi) : aSlice Tryd.prog 53 (.ref k g off n) lo hi = if 0 ≤ lo.getD 0 ∧ lo.getD 0 ≤ hi.getD n ∧ hi.getD n ≤ n then some (.ref k g (off + (lo.getD 0).toNat * 5) ((hi.getD n).toNat - (lo.getD 0).toNat)) else none := sl_ref (s := 4) (by kernel_rfl) k g off n lo hi
@[go_sem] theorem T53cp (k g off n x o nx) : aCopy Tryd.prog 53 (.ref k g off n) x ⟨o, nx⟩ = (srcOf o x).bind fun q => (rowIf (o k) g).bind (copyR k off n 5 q.1 q.2 o nx) := cp_ref (by kernel_rfl) k g off n x o nx
@[go_sem] theorem T53ms (tg l c o nx) : aMakeSlice Tryd.prog tg 53 l c ⟨o, nx⟩ = if 0 ≤ l ∧ l ≤ c ∧ c * 56 ≤ maxB ∧ c ≤ maxB then some (.ref tg tg 0 l.toNat, ⟨upd o tg (.row ⟨55, 5, tg, false, true, rep [AV.int .i64 0, AV.int .i64 0, AV.int .i64 0, AV.int .i64 0, AV.nil] l.toNat⟩), nx⟩) else none := ms_eq (e := 55) (s := 4) (b := 56) (z := [AV.int .i64 0, AV.int .i64 0, AV.int .i64 0, AV.int .i64 0, AV.nil]) (by kernel_rfl) (by kernel_rfl) (by kernel_rfl) (by kernel_rfl) rfl tg l c o nx
@[go_sem] theorem T53bs (tg n ps o nx) : aBuildSlice Tryd.prog tg 53 n ps ⟨o, nx⟩ = if n * 5 ≤ 16777216 then (fillA (fun i => some (i * 5, 5)) (rep [AV.int .i64 0, AV.int .i64 0, AV.int .i64 0, AV.int .i64 0, AV.nil] n) ps).map (fun cs => (.ref tg tg 0 n, ⟨upd o tg (.row ⟨55, 5, tg, false, true, cs⟩), nx⟩)) else none := bs_eq (e := 55) (s := 4) (z := [AV.int .i64 0, AV.int .i64 0, AV.int .i64 0, AV.int .i64 0, AV.nil]) (by kernel_rfl) (by kernel_rfl) (by kernel_rfl) rfl tg n ps o nx
@[go_sem] theorem T53ap (tg x y o nx) : aAppend Tryd.prog tg 53 53 x y ⟨o, nx⟩ = (srcOf o y).bind fun q => appW tg 55 5 56 x q.1 q.2 o nx := ap_eq (e := 55) (s := 4) (b := 55) (z := [AV.int .i64 0, AV.int .i64 0, AV.int .i64 0, AV.int .i64 0, AV.nil]) (by kernel_rfl) (by kernel_rfl) (by kernel_rfl) (by kernel_rfl) rfl (by kernel_rfl) tg x y o nx
@[go_sem] theorem T54s : tSize Tryd.prog 54 = some 5 := by kernel_rfl
@[go_sem] theorem T54a : tAgg Tryd.prog 54 = some true := by kernel_rfl
@[go_sem] theorem T54z : tZero Tryd.prog 54 = some [AV.int .i64 0, AV.int .i64 0, AV.int .i64 0, AV.int .i64 0, AV.nil] := by kernel_rfl
@[go_sem] theorem T54f0p (k g off) : fieldAddrA Tryd.prog 54 0 (.ptr k g off) = some (.ptr k g (off + 0)) := fa_ptr (s := 0) (ft := 3) (by kernel_rfl) (by kernel_rfl) k g off
@[go_sem] theorem T54f0q (cs) : fieldAddrA Tryd.prog 54 0 (.fptr cs) = some (.fptr (cs.drop 0)) := fa_fptr (s := 0) (ft := 3) (by kernel_rfl) (by kernel_rfl) cs
@[go_sem] theorem T54f0v (cs) : fieldA Tryd.prog 54 0 (.agg cs) = takeT Tryd.prog 3 (cs.drop 0) := fi_agg (by kernel_rfl) cs
@[go_sem] theorem T54f1p (k g off) : fieldAddrA Tryd.prog 54 1 (.ptr k g off) = some (.ptr k g (off + 1)) := fa_ptr (s := 0) (ft := 3) (by kernel_rfl) (by kernel_rfl) k g off
@[go_sem] theorem T54f1q (cs) : fieldAddrA Tryd.prog 54 1 (.fptr cs) = some (.fptr (cs.drop 1)) := fa_fptr (s := 0) (ft := 3) (by kernel_rfl) (by kernel_rfl) cs
@[go_sem] theorem T54f1v (cs) : fieldA Tryd.prog 54 1 (.agg cs) = takeT Tryd.prog 3 (cs.drop 1) := fi_agg (by kernel_rfl) cs
@[go_sem] theorem T54f2p (k g off) : fieldAddrA Tryd.prog 54 2 (.ptr k g off) = some (.ptr k g (off + 2)) := fa_ptr (s := 0) (ft := 3) (by kernel_rfl) (by kernel_rfl) k g off
@[go_sem] theorem T54f2q (cs) : fieldAddrA Tryd.prog 54 2 (.fptr cs) = some (.fptr (cs.drop 2)) := fa_fptr (s := 0) (ft := 3) (by kernel_rfl) (by kernel_rfl) cs
@[go_sem] theorem T54f2v (cs) : fieldA Tryd.prog 54 2 (.agg cs) = takeT Tryd.prog 3 (cs.drop 2) := fi_agg (by kernel_rfl) cs
@[go_sem] theorem T54f3p (k g off) : fieldAddrA Tryd.prog 54 3 (.ptr k g off) = some (.ptr k g (off + 3)) := fa_ptr (s := 0) (ft := 3) (by kernel_rfl) (by kernel_rfl) k g off
@[go_sem] theorem T54f3q (cs) : fieldAddrA Tryd.prog 54 3 (.fptr cs) = some (.fptr (cs.drop 3)) := fa_fptr (s := 0) (ft := 3) (by kernel_rfl) (by kernel_rfl) cs
@[go_sem] theorem T54f3v (cs) : fieldA Tryd.prog 54 3 (.agg cs) = takeT Tryd.prog 3 (cs.drop 3) := fi_agg (by kernel_rfl) cs
@[go_sem] theorem T54f4p (k g off) : fieldAddrA Tryd.prog 54 4 (.ptr k g off) = some (.ptr k g (off + 4)) := fa_ptr (s := 0) (ft := 53) (by kernel_rfl) (by kernel_rfl) k g off
@[go_sem] theorem T54f4q (cs) : fieldAddrA Tryd.prog 54 4 (.fptr cs) = some (.fptr (cs.drop 4)) := fa_fptr (s := 0) (ft := 53) (by kernel_rfl) (by kernel_rfl) cs
@[go_sem] theorem T54f4v (cs) : fieldA Tryd.prog 54 4 (.agg cs) = takeT Tryd.prog 53 (cs.drop 4) := fi_agg (by kernel_rfl) cs
@[go_sem] theorem T54bd (xs) : aBuild Tryd.prog 54 xs = (fillA (fun i => ([(0, 1), (1, 1), (2, 1), (3, 1), (4, 1)] : List (Nat × Nat))[i]?) [AV.int .i64 0, AV.int .i64 0, AV.int .i64 0, AV.int .i64 0, AV.nil] xs).map .agg := by kernel_rfl
@[go_sem] theorem T55s : tSize Tryd.prog 55 = some 5 := by kernel_rfl
@[go_sem] theorem T55a : tAgg Tryd.prog 55 = some true := by kernel_rfl
@[go_sem] theorem T55z : tZero Tryd.prog 55 = some [AV.int .i64 0, AV.int .i64 0, AV.int .i64 0, AV.int .i64 0, AV.nil] := by kernel_rfl
@[go_sem] theorem T55f0p (k g off) : fieldAddrA Tryd.prog 55 0 (.ptr k g off) = some (.ptr k g (off + 0)) := fa_ptr (s := 0) (ft := 3) (by kernel_rfl) (by kernel_rfl) k g off
@[go_sem] theorem T55f0q (cs) : fieldAddrA Tryd.prog 55 0 (.fptr cs) = some (.fptr (cs.drop 0)) := fa_fptr (s := 0) (ft := 3) (by kernel_rfl) (by kernel_rfl) cs
@[go_sem] theorem T55f0v (cs) : fieldA Tryd.prog 55 0 (.agg cs) = takeT Tryd.prog 3 (cs.drop 0) := fi_agg (by kernel_rfl) cs
@[go_sem] theorem T55f1p (k g off) : fieldAddrA Tryd.prog 55 1 (.ptr k g off) = some (.ptr k g (off + 1)) := fa_ptr (s := 0) (ft := 3) (by kernel_rfl) (by kernel_rfl) k g off
@[go_sem] theorem T55f1q (cs) : fieldAddrA Tryd.prog 55 1 (.fptr cs) = some (.fptr (cs.drop 1)) := fa_fptr (s := 0) (ft := 3) (by kernel_rfl) (by kernel_rfl) cs
@[go_sem] theorem T55f1v (cs) : fieldA Tryd.prog 55 1 (.agg cs) = takeT Tryd.prog 3 (cs.drop 1) := fi_agg (by kernel_rfl) cs
@[go_sem] theorem T55f2p (k g off) : fieldAddrA Tryd.prog 55 2 (.ptr k g off) = some (.ptr k g (off + 2)) := fa_ptr (s := 0) (ft := 3) (by kernel_rfl) (by kernel_rfl) k g off
@[go_sem] theorem T55f2q (cs) : fieldAddrA Tryd.prog 55 2 (.fptr cs) = some (.fptr (cs.drop 2)) := fa_fptr (s := 0) (ft := 3) (by kernel_rfl) (by kernel_rfl) cs
@[go_sem] theorem T55f2v (cs) : fieldA Tryd.prog 55 2 (.agg cs) = takeT Tryd.prog 3 (cs.drop 2) := fi_agg (by kernel_rfl) cs
@[go_sem] theorem T55f3p (k g off) : fieldAddrA Tryd.prog 55 3 (.ptr k g off) = some (.ptr k g (off + 3)) := fa_ptr (s := 0) (ft := 3) (by kernel_rfl) (by kernel_rfl) k g off
@[go_sem] theorem T55f3q (cs) : fieldAddrA Tryd.prog 55 3 (.fptr cs) = some (.fptr (cs.drop 3)) := fa_fptr (s := 0) (ft := 3) (by kernel_rfl) (by kernel_rfl) cs
@[go_sem] theorem T55f3v (cs) : fieldA Tryd.prog 55 3 (.agg cs) = takeT Tryd.prog 3 (cs.drop 3) := fi_agg (by kernel_rfl) cs
@[go_sem] theorem T55f4p (k g off) : fieldAddrA Tryd.prog 55 4 (.ptr k g off) = some (.ptr k g (off + 4)) := fa_ptr (s := 0) (ft := 53) (by kernel_rfl) (by kernel_rfl) k g off
@[go_sem] theorem T55f4q (cs) : fieldAddrA Tryd.prog 55 4 (.fptr cs) = some (.fptr (cs.drop 4)) := fa_fptr (s := 0) (ft := 53) (by kernel_rfl) (by kernel_rfl) cs
@[go_sem] theorem T55f4v (cs) : fieldA Tryd.prog 55 4 (.agg cs) = takeT Tryd.prog 53 (cs.drop 4) := fi_agg (by kernel_rfl) cs
@[go_sem] theorem T55bd (xs) : aBuild Tryd.prog 55 xs = (fillA (fun i => ([(0, 1), (1, 1), (2, 1), (3, 1), (4, 1)] : List (Nat × Nat))[i]?) [AV.int .i64 0, AV.int .i64 0, AV.int .i64 0, AV.int .i64 0, AV.nil] xs).map .agg := by kernel_rfl
@[go_sem] theorem T64s : tSize Tryd.prog 64 = some 1 := by kernel_rfl
@[go_sem] theorem T64a : tAgg Tryd.prog 64 = some false := by kernel_rfl
@[go_sem] theorem T64z : tZero Tryd.prog 64 = some [AV.int .u64 0] := by kernel_rfl
@[go_sem] theorem T64u : Tryd.prog.underlying 64 = some (.int .u64) := by kernel_rfl
@[go_sem] theorem T67s : tSize Tryd.prog 67 = some 2 := by kernel_rfl
@[go_sem] theorem T67a : tAgg Tryd.prog 67 = some true := by kernel_rfl
@[go_sem] theorem T67z : tZero Tryd.prog 67 = some [AV.nil, AV.nil] := by kernel_rfl
@[go_sem] theorem T67f0p (k g off) : fieldAddrA Tryd.prog 67 0 (.ptr k g off) = some (.ptr k g (off + 0)) := fa_ptr (s := 0) (ft := 22) (by kernel_rfl) (by kernel_rfl) k g off
@[go_sem] theorem T67f0q (cs) : fieldAddrA Tryd.prog 67 0 (.fptr cs) = some (.fptr (cs.drop 0)) := fa_fptr (s := 0) (ft := 22) (by kernel_rfl) (by kernel_rfl) cs
@[go_sem] theorem T67f0v (cs) : fieldA Tryd.prog 67 0 (.agg cs) = takeT Tryd.prog 22 (cs.drop 0) := fi_agg (by kernel_rfl) cs
@[go_sem] theorem T67f1p (k g off) : fieldAddrA Tryd.prog 67 1 (.ptr k g off) = some (.ptr k g (off + 1)) := fa_ptr (s := 0) (ft := 23) (by kernel_rfl) (by kernel_rfl) k g off
@[go_sem] theorem T67f1q (cs) : fieldAddrA Tryd.prog 67 1 (.fptr cs) = some (.fptr (cs.drop 1)) := fa_fptr (s := 0) (ft := 23) (by kernel_rfl) (by kernel_rfl) cs
@[go_sem] theorem T67f1v (cs) : fieldA Tryd.prog 67 1 (.agg cs) = takeT Tryd.prog 23 (cs.drop 1) := fi_agg (by kernel_rfl) cs
@[go_sem] theorem T67bd (xs) : aBuild Tryd.prog 67 xs = (fillA (fun i => ([(0, 1), (1, 1)] : List (Nat × Nat))[i]?) [AV.nil, AV.nil] xs).map .agg := by kernel_rfl
@[go_sem] theorem T68s : tSize Tryd.prog 68 = some 2 := by kernel_rfl
@[go_sem] theorem T68a : tAgg Tryd.prog 68 = some true := by kernel_rfl
@[go_sem] theorem T68z : tZero Tryd.prog 68 = some [AV.int .i64 0, AV.int .i64 0] := by kernel_rfl
@[go_sem] theorem T68ln (o x) : aLen Tryd.prog o 68 x = some (.int .i64 2) := ln_arr (e := 3) (by kernel_rfl) o x
@[go_sem] theorem T68ix1 (cs i) : aIndexAddr Tryd.prog 68 (.fptr cs) i = if 0 ≤ i ∧ i < 2 then some (.fptr (cs.drop (i.toNat * 1))) else none := ixa_fptr (n := 2) (e := 3) (s := 1) (by kernel_rfl) (by kernel_rfl) cs i
@[go_sem] theorem T68ix2 (k g off i) : aIndexAddr Tryd.prog 68 (.ptr k g off) i = if 0 ≤ i ∧ i < 2 then some (.ptr k g (off + i.toNat * 1)) else none := ixa_ptr (n := 2) (e := 3) (s := 1) (by kernel_rfl) (by kernel_rfl) k g off i
@[go_sem] theorem T68iv (cs i) : aIndex Tryd.prog 68 (.agg cs) i = if 0 ≤ i ∧ i < 2 then takeT Tryd.prog 3 (cs.drop (i.toNat * 1)) else none := ixv_agg (n := 2) (e := 3) (s := 1) (by kernel_rfl) (by kernel_rfl) cs i
@[go_sem] theorem T68bd (xs) : aBuild Tryd.prog 68 xs = (fillA (fun i => some (i * 1, 1)) [AV.int .i64 0, AV.int .i64 0] xs).map .agg := bd_array (n := 2) (e := 3) (by kernel_rfl) (by kernel_rfl) (by kernel_rfl) xs
@[go_sem] theorem T68lf : eqLeaves Tryd.prog 68 = some [Leaf.int, Leaf.int] := by kernel_rfl
@[go_sem] theorem T69s : tSize Tryd.prog 69 = some 3 := by kernel_rfl
@[go_sem] theorem T69a : tAgg Tryd.prog 69 = some true := by kernel_rfl
@[go_sem] theorem T69z : tZero Tryd.prog 69 = some [AV.int .i64 0, AV.int .i64 0, AV.int .i64 0] := by kernel_rfl
@[go_sem] theorem T69f0p (k g off) : fieldAddrA Tryd.prog 69 0 (.ptr k g off) = some (.ptr k g (off + 0)) := fa_ptr (s := 0) (ft := 3) (by kernel_rfl) (by kernel_rfl) k g off
@[go_sem] theorem T69f0q (cs) : fieldAddrA Tryd.prog 69 0 (.fptr cs) = some (.fptr (cs.drop 0)) := fa_fptr (s := 0) (ft := 3) (by kernel_rfl) (by kernel_rfl) cs
@[go_sem] theorem T69f0v (cs) : fieldA Tryd.prog 69 0 (.agg cs) = takeT Tryd.prog 3 (cs.drop 0) := fi_agg (by kernel_rfl) cs
@[go_sem] theorem T69f1p (k g off) : fieldAddrA Tryd.prog 69 1 (.ptr k g off) = some (.ptr k g (off + 1)) := fa_ptr (s := 0) (ft := 3) (by kernel_rfl) (by kernel_rfl) k g off
@[go_sem] theorem T69f1q (cs) : fieldAddrA Tryd.prog 69 1 (.fptr cs) = some (.fptr (cs.drop 1)) := fa_fptr (s := 0) (ft := 3) (by kernel_rfl) (by kernel_rfl) cs
@[go_sem] theorem T69f1v (cs) : fieldA Tryd.prog 69 1 (.agg cs) = takeT Tryd.prog 3 (cs.drop 1) := fi_agg (by kernel_rfl) cs
@[go_sem] theorem T69f2p (k g off) : fieldAddrA Tryd.prog 69 2 (.ptr k g off) = some (.ptr k g (off + 2)) := fa_ptr (s := 0) (ft := 3) (by kernel_rfl) (by kernel_rfl) k g off
@[go_sem] theorem T69f2q (cs) : fieldAddrA Tryd.prog 69 2 (.fptr cs) = some (.fptr (cs.drop 2)) := fa_fptr (s := 0) (ft := 3) (by kernel_rfl) (by kernel_rfl) cs
@[go_sem] theorem T69f2v (cs) : fieldA Tryd.prog 69 2 (.agg cs) = takeT Tryd.prog 3 (cs.drop 2) := fi_agg (by kernel_rfl) cs
@[go_sem] theorem T69bd (xs) : aBuild Tryd.prog 69 xs = (fillA (fun i => ([(0, 1), (1, 1), (2, 1)] : List (Nat × Nat))[i]?) [AV.int .i64 0, AV.int .i64 0, AV.int .i64 0] xs).map .agg := by kernel_rfl
@[go_sem] theorem T69lf : eqLeaves Tryd.prog 69 = some [Leaf.int, Leaf.int, Leaf.int] := by kernel_rfl
@[go_sem] theorem T70s : tSize Tryd.prog 70 = some 3 := by kernel_rfl
@[go_sem] theorem T70a : tAgg Tryd.prog 70 = some true := by kernel_rfl
@[go_sem] theorem T70z : tZero Tryd.prog 70 = some [AV.int .i64 0, AV.int .i64 0, AV.int .i64 0] := by kernel_rfl
@[go_sem] theorem T70f0p (k g off) : fieldAddrA Tryd.prog 70 0 (.ptr k g off) = some (.ptr k g (off + 0)) := fa_ptr (s := 0) (ft := 3) (by kernel_rfl) (by kernel_rfl) k g off
@[go_sem] theorem T70f0q (cs) : fieldAddrA Tryd.prog 70 0 (.fptr cs) = some (.fptr (cs.drop 0)) := fa_fptr (s := 0) (ft := 3) (by kernel_rfl) (by kernel_rfl) cs
@[go_sem] theorem T70f0v (cs) : fieldA Tryd.prog 70 0 (.agg cs) = takeT Tryd.prog 3 (cs.drop 0) := fi_agg (by kernel_rfl) cs
@[go_sem] theorem T70f1p (k g off) : fieldAddrA Tryd.prog 70 1 (.ptr k g off) = some (.ptr k g (off + 1)) := fa_ptr (s := 0) (ft := 3) (by kernel_rfl) (by kernel_rfl) k g off
@[go_sem] theorem T70f1q (cs) : fieldAddrA Tryd.prog 70 1 (.fptr cs) = some (.fptr (cs.drop 1)) := fa_fptr (s := 0) (ft := 3) (by kernel_rfl) (by kernel_rfl) cs
@[go_sem] theorem T70f1v (cs) : fieldA Tryd.prog 70 1 (.agg cs) = takeT Tryd.prog 3 (cs.drop 1) := fi_agg (by kernel_rfl) cs
@[go_sem] theorem T70f2p (k g off) : fieldAddrA Tryd.prog 70 2 (.ptr k g off) = some (.ptr k g (off + 2)) := fa_ptr (s := 0) (ft := 3) (by kernel_rfl) (by kernel_rfl) k g off
@[go_sem] theorem T70f2q (cs) : fieldAddrA Tryd.prog 70 2 (.fptr cs) = some (.fptr (cs.drop 2)) := fa_fptr (s := 0) (ft := 3) (by kernel_rfl) (by kernel_rfl) cs
@[go_sem] theorem T70f2v (cs) : fieldA Tryd.prog 70 2 (.agg cs) = takeT Tryd.prog 3 (cs.drop 2) := fi_agg (by kernel_rfl) cs
@[go_sem] theorem T70bd (xs) : aBuild Tryd.prog 70 xs = (fillA (fun i => ([(0, 1), (1, 1), (2, 1)] : List (Nat × Nat))[i]?) [AV.int .i64 0, AV.int .i64 0, AV.int .i64 0] xs).map .agg := by kernel_rfl
@[go_sem] theorem T70lf : eqLeaves Tryd.prog 70 = some [Leaf.int, Leaf.int, Leaf.int] := by kernel_rfl
@[go_sem] theorem T71s : tSize Tryd.prog 71 = some 1 := by kernel_rfl
@[go_sem] theorem T71a : tAgg Tryd.prog 71 = some false := by kernel_rfl
@[go_sem] theorem T71z : tZero Tryd.prog 71 = some [AV.nilp] := by kernel_rfl
@[go_sem] theorem T72s : tSize Tryd.prog 72 = some 1 := by kernel_rfl
@[go_sem] theorem T72a : tAgg Tryd.prog 72 = some false := by kernel_rfl
@[go_sem] theorem T72z : tZero Tryd.prog 72 = some [AV.nil] := by kernel_rfl
@[go_sem] theorem T72ln0 (o) : aLen Tryd.prog o 72 .nil = some (.int .i64 0) := ln_nil (e := 39) (by kernel_rfl) o
@[go_sem] theorem T72ln1 (o n cs) : aLen Tryd.prog o 72 (.sl n cs) = some (.int .i64 n) := ln_sl (e := 39) (by kernel_rfl) o n cs
@[go_sem] theorem T72ln2 (o k g off n) : aLen Tryd.prog o 72 (.ref k g off n) = some (.int .i64 n) := ln_ref (e := 39) (by kernel_rfl) o k g off n
@[go_sem] theorem T72ix1 (n cs i) : aIndexAddr Tryd.prog 72 (.sl n cs) i = if 0 ≤ i ∧ i < (n : Int) then some (.fptr (cs.drop (i.toNat * 1))) else none := ixs_sl (s := 1) (by kernel_rfl) n cs i
@[go_sem] theorem T72ix2 (k g off n i) : aIndexAddr Tryd.prog 72 (.ref k g off n) i = if 0 ≤ i ∧ i < (n : Int) then some (.ptr k g (off + i.toNat * 1)) else none := ixs_ref (s := 1) (by kernel_rfl) k g off n i
@[go_sem] theorem T72sl1 (n cs lo hi) : aSlice Tryd.prog 72 (.sl n cs) lo hi = if 0 ≤ lo.getD 0 ∧ lo.getD 0 ≤ hi.getD n ∧ hi.getD n ≤ n then some (.sl ((hi.getD n).toNat - (lo.getD 0).toNat) ((cs.take ((hi.getD n).toNat * 1)).drop ((lo.getD 0).toNat * 1))) else none := sl_sl (s := 1) (by kernel_rfl) n cs lo hi
@[go_sem] theorem T72sl2 (k g off n lo hi) : aSlice Tryd.prog 72 (.ref k g off n) lo hi = if 0 ≤ lo.getD 0 ∧ lo.getD 0 ≤ hi.getD n ∧ hi.getD n ≤ n then some (.ref k g (off + (lo.getD 0).toNat * 1) ((hi.getD n).toNat - (lo.getD 0).toNat)) else none := sl_ref (s := 0) (by kernel_rfl) k g off n lo hi
@[go_sem] theorem T72cp (k g off n x o nx) : aCopy Tryd.prog 72 (.ref k g off n) x ⟨o, nx⟩ = (srcOf o x).bind fun q => (rowIf (o k) g).bind (copyR k off n 1 q.1 q.2 o nx) := cp_ref (by kernel_rfl) k g off n x o nx
@[go_sem] theorem T72ms (tg l c o nx) : aMakeSlice Tryd.prog tg 72 l c ⟨o, nx⟩ = if 0 ≤ l ∧ l ≤ c ∧ c * 24 ≤ maxB ∧ c ≤ maxB then some (.ref tg tg 0 l.toNat, ⟨upd o tg (.row ⟨39, 1, tg, false, true, rep [AV.nil] l.toNat⟩), nx⟩) else none := ms_eq (e := 39) (s := 0) (b := 24) (z := [AV.nil]) (by kernel_rfl) (by kernel_rfl) (by kernel_rfl) (by kernel_rfl) rfl tg l c o nx
@[go_sem] theorem T72bs (tg n ps o nx) : aBuildSlice Tryd.prog tg 72 n ps ⟨o, nx⟩ = if n * 1 ≤ 16777216 then (fillA (fun i => some (i * 1, 1)) (rep [AV.nil] n) ps).map (fun cs => (.ref tg tg 0 n, ⟨upd o tg (.row ⟨39, 1, tg, false, true, cs⟩), nx⟩)) else none := bs_eq (e := 39) (s := 0) (z := [AV.nil]) (by kernel_rfl) (by kernel_rfl) (by kernel_rfl) rfl tg n ps o nx
@[go_sem] theorem T72ap (tg x y o nx) : aAppend Tryd.prog tg 72 72 x y ⟨o, nx⟩ = (srcOf o y).bind fun q => appW tg 39 1 24 x q.1 q.2 o nx := ap_eq (e := 39) (s := 0) (b := 23) (z := [AV.nil]) (by kernel_rfl) (by kernel_rfl) (by kernel_rfl) (by kernel_rfl) rfl (by kernel_rfl) tg x y o nx
@[go_sem] theorem T73s : tSize Tryd.prog 73 = some 1 := by kernel_rfl
@[go_sem] theorem T73a : tAgg Tryd.prog 73 = some false := by kernel_rfl
@[go_sem] theorem T73z : tZero Tryd.prog 73 = some [AV.nilmp] := by kernel_rfl
@[go_sem] theorem T73lk (m s ok o nx) : aLookup Tryd.prog 73 (.mp m) (.str s) ok ⟨o, nx⟩ = (mapIf (o m)).bind fun es => (findA (.str s) es).map (lkV ok (AV.int .i64 0)) := lk_eq (kt := 9) (et := 3) (z := (AV.int .i64 0)) (k := .str s) (by kernel_rfl) (by kernel_rfl) (by kernel_rfl) m ok o nx
@[go_sem] theorem T73mu (m s v o nx) : aMapUpdate Tryd.prog 73 (.mp m) (.str s) v ⟨o, nx⟩ = (mapIf (o m)).bind (updM m (.str s) v o nx) := mu_eq (kt := 9) (et := 3) (k := .str s) (by kernel_rfl) (by kernel_rfl) m v o nx
@[go_sem] theorem T73lm (o k) : aLen Tryd.prog o 73 (.mp k) = (mapIf (o k)).map fun es => .int .i64 es.length := lm_eq (kt := 9) (et := 3) (by kernel_rfl) o k
@[go_sem] theorem T74s : tSize Tryd.prog 74 = some 8 := by kernel_rfl
@[go_sem] theorem T74a : tAgg Tryd.prog 74 = some true := by kernel_rfl
@[go_sem] theorem T74z : tZero Tryd.prog 74 = some [AV.int .i64 0, AV.int .i64 0, AV.int .i64 0, AV.nil, AV.nil, AV.nil, AV.nilmp, AV.nil] := by kernel_rfl
@[go_sem] theorem T74f0p (k g off) : fieldAddrA Tryd.prog 74 0 (.ptr k g off) = some (.ptr k g (off + 0)) := fa_ptr (s := 4) (ft := 42) (by kernel_rfl) (by kernel_rfl) k g off
@[go_sem] theorem T74f0q (cs) : fieldAddrA Tryd.prog 74 0 (.fptr cs) = some (.fptr (cs.drop 0)) := fa_fptr (s := 4) (ft := 42) (by kernel_rfl) (by kernel_rfl) cs
@[go_sem] theorem T74f0v (cs) : fieldA Tryd.prog 74 0 (.agg cs) = takeT Tryd.prog 42 (cs.drop 0) := fi_agg (by kernel_rfl) cs
@[go_sem] theorem T74f1p (k g off) : fieldAddrA Tryd.prog 74 1 (.ptr k g off) = some (.ptr k g (off + 5)) := fa_ptr (s := 0) (ft := 72) (by kernel_rfl) (by kernel_rfl) k g off
@[go_sem] theorem T74f1q (cs) : fieldAddrA Tryd.prog 74 1 (.fptr cs) = some (.fptr (cs.drop 5)) := fa_fptr (s := 0) (ft := 72) (by kernel_rfl) (by kernel_rfl) cs
@[go_sem] theorem T74f1v (cs) : fieldA Tryd.prog 74 1 (.agg cs) = takeT Tryd.prog 72 (cs.drop 5) := fi_agg (by kernel_rfl) cs
@[go_sem] theorem T74f2p (k g off) : fieldAddrA Tryd.prog 74 2 (.ptr k g off) = some (.ptr k g (off + 6)) := fa_ptr (s := 0) (ft := 73) (by kernel_rfl) (by kernel_rfl) k g off
@[go_sem] theorem T74f2q (cs) : fieldAddrA Tryd.prog 74 2 (.fptr cs) = some (.fptr (cs.drop 6)) := fa_fptr (s := 0) (ft := 73) (by kernel_rfl) (by kernel_rfl) cs
@[go_sem] theorem T74f2v (cs) : fieldA Tryd.prog 74 2 (.agg cs) = takeT Tryd.prog 73 (cs.drop 6) := fi_agg (by kernel_rfl) cs
@[go_sem] theorem T74f3p (k g off) : fieldAddrA Tryd.prog 74 3 (.ptr k g off) = some (.ptr k g (off + 7)) := fa_ptr (s := 0) (ft := 34) (by kernel_rfl) (by kernel_rfl) k g off
@[go_sem] theorem T74f3q (cs) : fieldAddrA Tryd.prog 74 3 (.fptr cs) = some (.fptr (cs.drop 7)) := fa_fptr (s := 0) (ft := 34) (by kernel_rfl) (by kernel_rfl) cs
@[go_sem] theorem T74f3v (cs) : fieldA Tryd.prog 74 3 (.agg cs) = takeT Tryd.prog 34 (cs.drop 7) := fi_agg (by kernel_rfl) cs
@[go_sem] theorem T74bd (xs) : aBuild Tryd.prog 74 xs = (fillA (fun i => ([(0, 5), (5, 1), (6, 1), (7, 1)] : List (Nat × Nat))[i]?) [AV.int .i64 0, AV.int .i64 0, AV.int .i64 0, AV.nil, AV.nil, AV.nil, AV.nilmp, AV.nil] xs).map .agg := by kernel_rfl
@[go_sem] theorem T75s : tSize Tryd.prog 75 = some 8 := by kernel_rfl
@[go_sem] theorem T75a : tAgg Tryd.prog 75 = some true := by kernel_rfl
@[go_sem] theorem T75z : tZero Tryd.prog 75 = some [AV.int .i64 0, AV.int .i64 0, AV.int .i64 0, AV.nil, AV.nil, AV.nil, AV.nilmp, AV.nil] := by kernel_rfl
@[go_sem] theorem T75f0p (k g off) : fieldAddrA Tryd.prog 75 0 (.ptr k g off) = some (.ptr k g (off + 0)) := fa_ptr (s := 4) (ft := 42) (by kernel_rfl) (by kernel_rfl) k g off
@[go_sem] theorem T75f0q (cs) : fieldAddrA Tryd.prog 75 0 (.fptr cs) = some (.fptr (cs.drop 0)) := fa_fptr (s := 4) (ft := 42) (by kernel_rfl) (by kernel_rfl) cs
@[go_sem] theorem T75f0v (cs) : fieldA Tryd.prog 75 0 (.agg cs) = takeT Tryd.prog 42 (cs.drop 0) := fi_agg (by kernel_rfl) cs
@[go_sem] theorem T75f1p (k g off) : fieldAddrA Tryd.prog 75 1 (.ptr k g off) = some (.ptr k g (off + 5)) := fa_ptr (s := 0) (ft := 72) (by kernel_rfl) (by kernel_rfl) k g off
@[go_sem] theorem T75f1q (cs) : fieldAddrA Tryd.prog 75 1 (.fptr cs) = some (.fptr (cs.drop 5)) := fa_fptr (s := 0) (ft := 72) (by kernel_rfl) (by kernel_rfl) cs
@[go_sem] theorem T75f1v (cs) : fieldA Tryd.prog 75 1 (.agg cs) = takeT Tryd.prog 72 (cs.drop 5) := fi_agg (by kernel_rfl) cs
@[go_sem] theorem T75f2p (k g off) : fieldAddrA Tryd.prog 75 2 (.ptr k g off) = some (.ptr k g (off + 6)) := fa_ptr (s := 0) (ft := 73) (by kernel_rfl) (by kernel_rfl) k g off
@[go_sem] theorem T75f2q (cs) : fieldAddrA Tryd.prog 75 2 (.fptr cs) = some (.fptr (cs.drop 6)) := fa_fptr (s := 0) (ft := 73) (by kernel_rfl) (by kernel_rfl) cs
@[go_sem] theorem T75f2v (cs) : fieldA Tryd.prog 75 2 (.agg cs) = takeT Tryd.prog 73 (cs.drop 6) := fi_agg (by kernel_rfl) cs
@[go_sem] theorem T75f3p (k g off) : fieldAddrA Tryd.prog 75 3 (.ptr k g off) = some (.ptr k g (off + 7)) := fa_ptr (s := 0) (ft := 34) (by kernel_rfl) (by kernel_rfl) k g off
@[go_sem] theorem T75f3q (cs) : fieldAddrA Tryd.prog 75 3 (.fptr cs) = some (.fptr (cs.drop 7)) := fa_fptr (s := 0) (ft := 34) (by kernel_rfl) (by kernel_rfl) cs
@[go_sem] theorem T75f3v (cs) : fieldA Tryd.prog 75 3 (.agg cs) = takeT Tryd.prog 34 (cs.drop 7) := fi_agg (by kernel_rfl) cs
@[go_sem] theorem T75bd (xs) : aBuild Tryd.prog 75 xs = (fillA (fun i => ([(0, 5), (5, 1), (6, 1), (7, 1)] : List (Nat × Nat))[i]?) [AV.int .i64 0, AV.int .i64 0, AV.int .i64 0, AV.nil, AV.nil, AV.nil, AV.nilmp, AV.nil] xs).map .agg := by kernel_rfl
@[go_sem] theorem T81s : tSize Tryd.prog 81 = some 1 := by kernel_rfl
@[go_sem] theorem T81a : tAgg Tryd.prog 81 = some false := by kernel_rfl
@[go_sem] theorem T81z : tZero Tryd.prog 81 = some [AV.nil] := by kernel_rfl
@[go_sem] theorem T81ln0 (o) : aLen Tryd.prog o 81 .nil = some (.int .i64 0) := ln_nil (e := 23) (by kernel_rfl) o
@[go_sem] theorem T81ln1 (o n cs) : aLen Tryd.prog o 81 (.sl n cs) = some (.int .i64 n) := ln_sl (e := 23) (by kernel_rfl) o n cs
@[go_sem] theorem T81ln2 (o k g off n) : aLen Tryd.prog o 81 (.ref k g off n) = some (.int .i64 n) := ln_ref (e := 23) (by kernel_rfl) o k g off n
@[go_sem] theorem T81ix1 (n cs i) : aIndexAddr Tryd.prog 81 (.sl n cs) i = if 0 ≤ i ∧ i < (n : Int) then some (.fptr (cs.drop (i.toNat * 1))) else none := ixs_sl (s := 1) (by kernel_rfl) n cs i
@[go_sem] theorem T81ix2 (k g off n i) : aIndexAddr Tryd.prog 81 (.ref k g off n) i = if 0 ≤ i ∧ i < (n : Int) then some (.ptr k g (off + i.toNat * 1)) else none := ixs_ref (s := 1) (by kernel_rfl) k g off n i
@[go_sem] theorem T81sl1 (n cs lo hi) : aSlice Tryd.prog 81 (.sl n cs) lo hi = if 0 ≤ lo.getD 0 ∧ lo.getD 0 ≤ hi.getD n ∧ hi.getD n ≤ n then some (.sl ((hi.getD n).toNat - (lo.getD 0).toNat) ((cs.take ((hi.getD n).toNat * 1)).drop ((lo.getD 0).toNat * 1))) else none := sl_sl (s := 1) (by kernel_rfl) n cs lo hi
@[go_sem] theorem T81sl2 (k g off n lo hi) : aSlice Tryd.prog 81 (.ref k g off n) lo hi = if 0 ≤ lo.getD 0 ∧ lo.getD 0 ≤ hi.getD n ∧ hi.getD n ≤ n then some (.ref k g (off + (lo.getD 0).toNat * 1) ((hi.getD n).toNat - (lo.getD 0).toNat)) else none := sl_ref (s := 0) (by kernel_rfl) k g off n lo hi
@[go_sem] theorem T81cp (k g off n x o nx) : aCopy Tryd.prog 81 (.ref k g off n) x ⟨o, nx⟩ = (srcOf o x).bind fun q => (rowIf (o k) g).bind (copyR k off n 1 q.1 q.2 o nx) := cp_ref (by kernel_rfl) k g off n x o nx
@[go_sem] theorem T81ms (tg l c o nx) : aMakeSlice Tryd.prog tg 81 l c ⟨o, nx⟩ = if 0 ≤ l ∧ l ≤ c ∧ c * 24 ≤ maxB ∧ c ≤ maxB then some (.ref tg tg 0 l.toNat, ⟨upd o tg (.row ⟨23, 1, tg, false, true, rep [AV.nil] l.toNat⟩), nx⟩) else none := ms_eq (e := 23) (s := 0) (b := 24) (z := [AV.nil]) (by kernel_rfl) (by kernel_rfl) (by kernel_rfl) (by kernel_rfl) rfl tg l c o nx
@[go_sem] theorem T81bs (tg n ps o nx) : aBuildSlice Tryd.prog tg 81 n ps ⟨o, nx⟩ = if n * 1 ≤ 16777216 then (fillA (fun i => some (i * 1, 1)) (rep [AV.nil] n) ps).map (fun cs => (.ref tg tg 0 n, ⟨upd o tg (.row ⟨23, 1, tg, false, true, cs⟩), nx⟩)) else none := bs_eq (e := 23) (s := 0) (z := [AV.nil]) (by kernel_rfl) (by kernel_rfl) (by kernel_rfl) rfl tg n ps o nx
@[go_sem] theorem T81ap (tg x y o nx) : aAppend Tryd.prog tg 81 81 x y ⟨o, nx⟩ = (srcOf o y).bind fun q => appW tg 23 1 24 x q.1 q.2 o nx := ap_eq (e := 23) (s := 0) (b := 23) (z := [AV.nil]) (by kernel_rfl) (by kernel_rfl) (by kernel_rfl) (by kernel_rfl) rfl (by kernel_rfl) tg x y o nx
@[go_sem] theorem T85s : tSize Tryd.prog 85 = some 3 := by kernel_rfl
@[go_sem] theorem T85a : tAgg Tryd.prog 85 = some true := by kernel_rfl
@[go_sem] theorem T85z : tZero Tryd.prog 85 = some [AV.int .i64 0, AV.int .i64 0, AV.nil] := by kernel_rfl
@[go_sem] theorem T85f0p (k g off) : fieldAddrA Tryd.prog 85 0 (.ptr k g off) = some (.ptr k g (off + 0)) := fa_ptr (s := 0) (ft := 3) (by kernel_rfl) (by kernel_rfl) k g off
@[go_sem] theorem T85f0q (cs) : fieldAddrA Tryd.prog 85 0 (.fptr cs) = some (.fptr (cs.drop 0)) := fa_fptr (s := 0) (ft := 3) (by kernel_rfl) (by kernel_rfl) cs
@[go_sem] theorem T85f0v (cs) : fieldA Tryd.prog 85 0 (.agg cs) = takeT Tryd.prog 3 (cs.drop 0) := fi_agg (by kernel_rfl) cs
@[go_sem] theorem T85f1p (k g off) : fieldAddrA Tryd.prog 85 1 (.ptr k g off) = some (.ptr k g (off + 1)) := fa_ptr (s := 0) (ft := 3) (by kernel_rfl) (by kernel_rfl) k g off
@[go_sem] theorem T85f1q (cs) : fieldAddrA Tryd.prog 85 1 (.fptr cs) = some (.fptr (cs.drop 1)) := fa_fptr (s := 0) (ft := 3) (by kernel_rfl) (by kernel_rfl) cs
@[go_sem] theorem T85f1v (cs) : fieldA Tryd.prog 85 1 (.agg cs) = takeT Tryd.prog 3 (cs.drop 1) := fi_agg (by kernel_rfl) cs
@[go_sem] theorem T85f2p (k g off) : fieldAddrA Tryd.prog 85 2 (.ptr k g off) = some (.ptr k g (off + 2)) := fa_ptr (s := 0) (ft := 51) (by kernel_rfl) (by kernel_rfl) k g off
@[go_sem] theorem T85f2q (cs) : fieldAddrA Tryd.prog 85 2 (.fptr cs) = some (.fptr (cs.drop 2)) := fa_fptr (s := 0) (ft := 51) (by kernel_rfl) (by kernel_rfl) cs
@[go_sem] theorem T85f2v (cs) : fieldA Tryd.prog 85 2 (.agg cs) = takeT Tryd.prog 51 (cs.drop 2) := fi_agg (by kernel_rfl) cs
@[go_sem] theorem T85bd (xs) : aBuild Tryd.prog 85 xs = (fillA (fun i => ([(0, 1), (1, 1), (2, 1)] : List (Nat × Nat))[i]?) [AV.int .i64 0, AV.int .i64 0, AV.nil] xs).map .agg := by kernel_rfl
@[go_sem] theorem T86s : tSize Tryd.prog 86 = some 3 := by kernel_rfl
@[go_sem] theorem T86a : tAgg Tryd.prog 86 = some true := by kernel_rfl
@[go_sem] theorem T86z : tZero Tryd.prog 86 = some [AV.int .i64 0, AV.int .i64 0, AV.nil] := by kernel_rfl
@[go_sem] theorem T86f0p (k g off) : fieldAddrA Tryd.prog 86 0 (.ptr k g off) = some (.ptr k g (off + 0)) := fa_ptr (s := 0) (ft := 3) (by kernel_rfl) (by kernel_rfl) k g off
@[go_sem] theorem T86f0q (cs) : fieldAddrA Tryd.prog 86 0 (.fptr cs) = some (.fptr (cs.drop 0)) := fa_fptr (s := 0) (ft := 3) (by kernel_rfl) (by kernel_rfl) cs
@[go_sem] theorem T86f0v (cs) : fieldA Tryd.prog 86 0 (.agg cs) = takeT Tryd.prog 3 (cs.drop 0) := fi_agg (by kernel_rfl) cs
@[go_sem] theorem T86f1p (k g off) : fieldAddrA Tryd.prog 86 1 (.ptr k g off) = some (.ptr k g (off + 1)) := fa_ptr (s := 0) (ft := 3) (by kernel_rfl) (by kernel_rfl) k g off
@[go_sem] theorem T86f1q (cs) : fieldAddrA Tryd.prog 86 1 (.fptr cs) = some (.fptr (cs.drop 1)) := fa_fptr (s := 0) (ft := 3) (by kernel_rfl) (by kernel_rfl) cs
@[go_sem] theorem T86f1v (cs) : fieldA Tryd.prog 86 1 (.agg cs) = takeT Tryd.prog 3 (cs.drop 1) := fi_agg (by kernel_rfl) cs
@[go_sem] theorem T86f2p (k g off) : fieldAddrA Tryd.prog 86 2 (.ptr k g off) = some (.ptr k g (off + 2)) := fa_ptr (s := 0) (ft := 51) (by kernel_rfl) (by kernel_rfl) k g off
@[go_sem] theorem T86f2q (cs) : fieldAddrA Tryd.prog 86 2 (.fptr cs) = some (.fptr (cs.drop 2)) := fa_fptr (s := 0) (ft := 51) (by kernel_rfl) (by kernel_rfl) cs
@[go_sem] theorem T86f2v (cs) : fieldA Tryd.prog 86 2 (.agg cs) = takeT Tryd.prog 51 (cs.drop 2) := fi_agg (by kernel_rfl) cs
@[go_sem] theorem T86bd (xs) : aBuild Tryd.prog 86 xs = (fillA (fun i => ([(0, 1), (1, 1), (2, 1)] : List (Nat × Nat))[i]?) [AV.int .i64 0, AV.int .i64 0, AV.nil] xs).map .agg := by kernel_rfl
@[go_sem] theorem T88s : tSize Tryd.prog 88 = some 1 := by kernel_rfl
@[go_sem] theorem T88a : tAgg Tryd.prog 88 = some false := by kernel_rfl
@[go_sem] theorem T88z : tZero Tryd.prog 88 = some [AV.nilp] := by kernel_rfl
@[go_sem] theorem T89s : tSize Tryd.prog 89 = some 6 := by kernel_rfl
@[go_sem] theorem T89a : tAgg Tryd.prog 89 = some true := by kernel_rfl
@[go_sem] theorem T89z : tZero Tryd.prog 89 = some [AV.int .i64 0, AV.int .i64 0, AV.int .i64 0, AV.nil, AV.nil, AV.bool false] := by kernel_rfl
@[go_sem] theorem T89f0p (k g off) : fieldAddrA Tryd.prog 89 0 (.ptr k g off) = some (.ptr k g (off + 0)) := fa_ptr (s := 4) (ft := 42) (by kernel_rfl) (by kernel_rfl) k g off
@[go_sem] theorem T89f0q (cs) : fieldAddrA Tryd.prog 89 0 (.fptr cs) = some (.fptr (cs.drop 0)) := fa_fptr (s := 4) (ft := 42) (by kernel_rfl) (by kernel_rfl) cs
@[go_sem] theorem T89f0v (cs) : fieldA Tryd.prog 89 0 (.agg cs) = takeT Tryd.prog 42 (cs.drop 0) := fi_agg (by kernel_rfl) cs
@[go_sem] theorem T89f1p (k g off) : fieldAddrA Tryd.prog 89 1 (.ptr k g off) = some (.ptr k g (off + 5)) := fa_ptr (s := 0) (ft := 4) (by kernel_rfl) (by kernel_rfl) k g off
@[go_sem] theorem T89f1q (cs) : fieldAddrA Tryd.prog 89 1 (.fptr cs) = some (.fptr (cs.drop 5)) := fa_fptr (s := 0) (ft := 4) (by kernel_rfl) (by kernel_rfl) cs
@[go_sem] theorem T89f1v (cs) : fieldA Tryd.prog 89 1 (.agg cs) = takeT Tryd.prog 4 (cs.drop 5) := fi_agg (by kernel_rfl) cs
@[go_sem] theorem T89bd (xs) : aBuild Tryd.prog 89 xs = (fillA (fun i => ([(0, 5), (5, 1)] : List (Nat × Nat))[i]?) [AV.int .i64 0, AV.int .i64 0, AV.int .i64 0, AV.nil, AV.nil, AV.bool false] xs).map .agg := by kernel_rfl
@[go_sem] theorem T90s : tSize Tryd.prog 90 = some 6 := by kernel_rfl
@[go_sem] theorem T90a : tAgg Tryd.prog 90 = some true := by kernel_rfl
@[go_sem] theorem T90z : tZero Tryd.prog 90 = some [AV.int .i64 0, AV.int .i64 0, AV.int .i64 0, AV.nil, AV.nil, AV.bool false] := by kernel_rfl
@[go_sem] theorem T90f0p (k g off) : fieldAddrA Tryd.prog 90 0 (.ptr k g off) = some (.ptr k g (off + 0)) := fa_ptr (s := 4) (ft := 42) (by kernel_rfl) (by kernel_rfl) k g off
@[go_sem] theorem T90f0q (cs) : fieldAddrA Tryd.prog 90 0 (.fptr cs) = some (.fptr (cs.drop 0)) := fa_fptr (s := 4) (ft := 42) (by kernel_rfl) (by kernel_rfl) cs
@[go_sem] theorem T90f0v (cs) : fieldA Tryd.prog 90 0 (.agg cs) = takeT Tryd.prog 42 (cs.drop 0) := fi_agg (by kernel_rfl) cs
@[go_sem] theorem T90f1p (k g off) : fieldAddrA Tryd.prog 90 1 (.ptr k g off) = some (.ptr k g (off + 5)) := fa_ptr (s := 0) (ft := 4) (by kernel_rfl) (by kernel_rfl) k g off
@[go_sem] theorem T90f1q (cs) : fieldAddrA Tryd.prog 90 1 (.fptr cs) = some (.fptr (cs.drop 5)) := fa_fptr (s := 0) (ft := 4) (by kernel_rfl) (by kernel_rfl) cs
@[go_sem] theorem T90f1v (cs) : fieldA Tryd.prog 90 1 (.agg cs) = takeT Tryd.prog 4 (cs.drop 5) := fi_agg (by kernel_rfl) cs
@[go_sem] theorem T90bd (xs) : aBuild Tryd.prog 90 xs = (fillA (fun i => ([(0, 5), (5, 1)] : List (Nat × Nat))[i]?) [AV.int .i64 0, AV.int .i64 0, AV.int .i64 0, AV.nil, AV.nil, AV.bool false] xs).map .agg := by kernel_rfl
@[go_sem] theorem T93s : tSize Tryd.prog 93 = some 1 := by kernel_rfl
@[go_sem] theorem T93a : tAgg Tryd.prog 93 = some false := by kernel_rfl
@[go_sem] theorem T93z : tZero Tryd.prog 93 = some [AV.nil] := by kernel_rfl
@[go_sem] theorem T93ln0 (o) : aLen Tryd.prog o 93 .nil = some (.int .i64 0) := ln_nil (e := 4) (by kernel_rfl) o
@[go_sem] theorem T93ln1 (o n cs) : aLen Tryd.prog o 93 (.sl n cs) = some (.int .i64 n) := ln_sl (e := 4) (by kernel_rfl) o n cs
@[go_sem] theorem T93ln2 (o k g off n) : aLen Tryd.prog o 93 (.ref k g off n) = some (.int .i64 n) := ln_ref (e := 4) (by kernel_rfl) o k g off n
@[go_sem] theorem T93ix1 (n cs i) : aIndexAddr Tryd.prog 93 (.sl n cs) i = if 0 ≤ i ∧ i < (n : Int) then some (.fptr (cs.drop (i.toNat * 1))) else none := ixs_sl (s := 1) (by kernel_rfl) n cs i
@[go_sem] theorem T93ix2 (k g off n i) : aIndexAddr Tryd.prog 93 (.ref k g off n) i = if 0 ≤ i ∧ i < (n : Int) then some (.ptr k g (off + i.toNat * 1)) else none := ixs_ref (s := 1) (by kernel_rfl) k g off n i
@[go_sem] theorem T93sl1 (n cs lo hi) : aSlice Tryd.prog 93 (.sl n cs) lo hi = if 0 ≤ lo.getD 0 ∧ lo.getD 0 ≤ hi.getD n ∧ hi.getD n ≤ n then some (.sl ((hi.getD n).toNat - (lo.getD 0).toNat) ((cs.take ((hi.getD n).toNat * 1)).drop ((lo.getD 0).toNat * 1))) else none := sl_sl (s := 1) (by kernel_rfl) n cs lo hi
@[go_sem] theorem T93sl2 (k g off n lo hi) : aSlice Tryd.prog 93 (.ref k g off n) lo hi = if 0 ≤ lo.getD 0 ∧ lo.getD 0 ≤ hi.getD n ∧ hi.getD n ≤ n then some (.ref k g (off + (lo.getD 0).toNat * 1) ((hi.getD n).toNat - (lo.getD 0).toNat)) else none := sl_ref (s := 0) (by kernel_rfl) k g off n lo hi
@[go_sem] theorem T93cp (k g off n x o nx) : aCopy Tryd.prog 93 (.ref k g off n) x ⟨o, nx⟩ = (srcOf o x).bind fun q => (rowIf (o k) g).bind (copyR k off n 1 q.1 q.2 o nx) := cp_ref (by kernel_rfl) k g off n x o nx
@[go_sem] theorem T93ms (tg l c o nx) : aMakeSlice Tryd.prog tg 93 l c ⟨o, nx⟩ = if 0 ≤ l ∧ l ≤ c ∧ c * 1 ≤ maxB ∧ c ≤ maxB then some (.ref tg tg 0 l.toNat, ⟨upd o tg (.row ⟨4, 1, tg, false, true, rep [AV.bool false] l.toNat⟩), nx⟩) else none := ms_eq (e := 4) (s := 0) (b := 1) (z := [AV.bool false]) (by kernel_rfl) (by kernel_rfl) (by kernel_rfl) (by kernel_rfl) rfl tg l c o nx
@[go_sem] theorem T93bs (tg n ps o nx) : aBuildSlice Tryd.prog tg 93 n ps ⟨o, nx⟩ = if n * 1 ≤ 16777216 then (fillA (fun i => some (i * 1, 1)) (rep [AV.bool false] n) ps).map (fun cs => (.ref tg tg 0 n, ⟨upd o tg (.row ⟨4, 1, tg, false, true, cs⟩), nx⟩)) else none := bs_eq (e := 4) (s := 0) (z := [AV.bool false]) (by kernel_rfl) (by kernel_rfl) (by kernel_rfl) rfl tg n ps o nx
@[go_sem] theorem T93ap (tg x y o nx) : aAppend Tryd.prog tg 93 93 x y ⟨o, nx⟩ = (srcOf o y).bind fun q => appW tg 4 1 1 x q.1 q.2 o nx := ap_eq (e := 4) (s := 0) (b := 0) (z := [AV.bool false]) (by kernel_rfl) (by kernel_rfl) (by kernel_rfl) (by kernel_rfl) rfl (by kernel_rfl) tg x y o nx
@[go_sem] theorem T98s : tSize Tryd.prog 98 = some 2 := by kernel_rfl
@[go_sem] theorem T98a : tAgg Tryd.prog 98 = some true := by kernel_rfl
@[go_sem] theorem T98z : tZero Tryd.prog 98 = some [AV.int .i64 0, AV.nil] := by kernel_rfl
@[go_sem] theorem T98f0p (k g off) : fieldAddrA Tryd.prog 98 0 (.ptr k g off) = some (.ptr k g (off + 0)) := fa_ptr (s := 0) (ft := 3) (by kernel_rfl) (by kernel_rfl) k g off
@[go_sem] theorem T98f0q (cs) : fieldAddrA Tryd.prog 98 0 (.fptr cs) = some (.fptr (cs.drop 0)) := fa_fptr (s := 0) (ft := 3) (by kernel_rfl) (by kernel_rfl) cs
@[go_sem] theorem T98f0v (cs) : fieldA Tryd.prog 98 0 (.agg cs) = takeT Tryd.prog 3 (cs.drop 0) := fi_agg (by kernel_rfl) cs
@[go_sem] theorem T98f1p (k g off) : fieldAddrA Tryd.prog 98 1 (.ptr k g off) = some (.ptr k g (off + 1)) := fa_ptr (s := 0) (ft := 34) (by kernel_rfl) (by kernel_rfl) k g off
@[go_sem] theorem T98f1q (cs) : fieldAddrA Tryd.prog 98 1 (.fptr cs) = some (.fptr (cs.drop 1)) := fa_fptr (s := 0) (ft := 34) (by kernel_rfl) (by kernel_rfl) cs
@[go_sem] theorem T98f1v (cs) : fieldA Tryd.prog 98 1 (.agg cs) = takeT Tryd.prog 34 (cs.drop 1) := fi_agg (by kernel_rfl) cs
@[go_sem] theorem T98bd (xs) : aBuild Tryd.prog 98 xs = (fillA (fun i => ([(0, 1), (1, 1)] : List (Nat × Nat))[i]?) [AV.int .i64 0, AV.nil] xs).map .agg := by kernel_rfl
@[go_sem] theorem T99s : tSize Tryd.prog 99 = some 2 := by kernel_rfl
@[go_sem] theorem T99a : tAgg Tryd.prog 99 = some true := by kernel_rfl
@[go_sem] theorem T99z : tZero Tryd.prog 99 = some [AV.int .i64 0, AV.nil] := by kernel_rfl
@[go_sem] theorem T99f0p (k g off) : fieldAddrA Tryd.prog 99 0 (.ptr k g off) = some (.ptr k g (off + 0)) := fa_ptr (s := 0) (ft := 3) (by kernel_rfl) (by kernel_rfl) k g off
@[go_sem] theorem T99f0q (cs) : fieldAddrA Tryd.prog 99 0 (.fptr cs) = some (.fptr (cs.drop 0)) := fa_fptr (s := 0) (ft := 3) (by kernel_rfl) (by kernel_rfl) cs
@[go_sem] theorem T99f0v (cs) : fieldA Tryd.prog 99 0 (.agg cs) = takeT Tryd.prog 3 (cs.drop 0) := fi_agg (by kernel_rfl) cs
@[go_sem] theorem T99f1p (k g off) : fieldAddrA Tryd.prog 99 1 (.ptr k g off) = some (.ptr k g (off + 1)) := fa_ptr (s := 0) (ft := 34) (by kernel_rfl) (by kernel_rfl) k g off
@[go_sem] theorem T99f1q (cs) : fieldAddrA Tryd.prog 99 1 (.fptr cs) = some (.fptr (cs.drop 1)) := fa_fptr (s := 0) (ft := 34) (by kernel_rfl) (by kernel_rfl) cs
@[go_sem] theorem T99f1v (cs) : fieldA Tryd.prog 99 1 (.agg cs) = takeT Tryd.prog 34 (cs.drop 1) := fi_agg (by kernel_rfl) cs
@[go_sem] theorem T99bd (xs) : aBuild Tryd.prog 99 xs = (fillA (fun i => ([(0, 1), (1, 1)] : List (Nat × Nat))[i]?) [AV.int .i64 0, AV.nil] xs).map .agg := by kernel_rfl
@[go_sem] theorem T113s : tSize Tryd.prog 113 = some 24 := by kernel_rfl
@[go_sem] theorem T113a : tAgg Tryd.prog 113 = some true := by kernel_rfl
@[go_sem] theorem T113z : tZero Tryd.prog 113 = some [AV.int .u8 0, AV.int .u8 0, AV.int .u8 0, AV.int .u8 0, AV.int .u8 0, AV.int .u8 0, AV.int .u8 0, AV.int .u8 0, AV.int .u8 0, AV.int .u8 0, AV.int .u8 0, AV.int .u8 0, AV.int .u8 0, AV.int .u8 0, AV.int .u8 0, AV.int .u8 0, AV.int .u8 0, AV.int .u8 0, AV.int .u8 0, AV.int .u8 0, AV.int .u8 0, AV.int .u8 0, AV.int .u8 0, AV.int .u8 0] := by kernel_rfl
@[go_sem] theorem T113ln (o x) : aLen Tryd.prog o 113 x = some (.int .i64 24) := ln_arr (e := 5) (by kernel_rfl) o x
@[go_sem] theorem T113ix1 (cs i) : aIndexAddr Tryd.prog 113 (.fptr cs) i = if 0 ≤ i ∧ i < 24 then some (.fptr (cs.drop (i.toNat * 1))) else none := ixa_fptr (n := 24) (e := 5) (s := 1) (by kernel_rfl) (by kernel_rfl) cs i
@[go_sem] theorem T113ix2 (k g off i) : aIndexAddr Tryd.prog 113 (.ptr k g off) i = if 0 ≤ i ∧ i < 24 then some (.ptr k g (off + i.toNat * 1)) else none := ixa_ptr (n := 24) (e := 5) (s := 1) (by kernel_rfl) (by kernel_rfl) k g off i
@[go_sem] theorem T113iv (cs i) : aIndex Tryd.prog 113 (.agg cs) i = if 0 ≤ i ∧ i < 24 then takeT Tryd.prog 5 (cs.drop (i.toNat * 1)) else none := ixv_agg (n := 24) (e := 5) (s := 1) (by kernel_rfl) (by kernel_rfl) cs i
@[go_sem] theorem T113bd (xs) : aBuild Tryd.prog 113 xs = (fillA (fun i => some (i * 1, 1)) [AV.int .u8 0, AV.int .u8 0, AV.int .u8 0, AV.int .u8 0, AV.int .u8 0, AV.int .u8 0, AV.int .u8 0, AV.int .u8 0, AV.int .u8 0, AV.int .u8 0, AV.int .u8 0, AV.int .u8 0, AV.int .u8 0, AV.int .u8 0, AV.int .u8 0, AV.int .u8 0, AV.int .u8 0, AV.int .u8 0, AV.int .u8 0, AV.int .u8 0, AV.int .u8 0, AV.int .u8 0, AV.int .u8 0, AV.int .u8 0] xs).map .agg := bd_array (n := 24) (e := 5) (by kernel_rfl) (by kernel_rfl) (by kernel_rfl) xs
@[go_sem] theorem T113lf : eqLeaves Tryd.prog 113 = some [Leaf.int, Leaf.int, Leaf.int, Leaf.int, Leaf.int, Leaf.int, Leaf.int, Leaf.int, Leaf.int, Leaf.int, Leaf.int, Leaf.int, Leaf.int, Leaf.int, Leaf.int, Leaf.int, Leaf.int, Leaf.int, Leaf.int, Leaf.int, Leaf.int, Leaf.int, Leaf.int, Leaf.int] := by kernel_rfl
@[go_sem] theorem T114s : tSize Tryd.prog 114 = some 1 := by kernel_rfl
@[go_sem] theorem T114a : tAgg Tryd.prog 114 = some false := by kernel_rfl
@[go_sem] theorem T114z : tZero Tryd.prog 114 = some [AV.int .u64 0] := by kernel_rfl
@[go_sem] theorem T114u : Tryd.prog.underlying 114 = some (.int .u64) := by kernel_rfl
@[go_sem] theorem T117s : tSize Tryd.prog 117 = some 1 := by kernel_rfl
@[go_sem] theorem T117a : tAgg Tryd.prog 117 = some false := by kernel_rfl
@[go_sem] theorem T117z : tZero Tryd.prog 117 = some [AV.nil] := by kernel_rfl
@[go_sem] theorem T117ln0 (o) : aLen Tryd.prog o 117 .nil = some (.int .i64 0) := ln_nil (e := 5) (by kernel_rfl) o
@[go_sem] theorem T117ln1 (o n cs) : aLen Tryd.prog o 117 (.sl n cs) = some (.int .i64 n) := ln_sl (e := 5) (by kernel_rfl) o n cs
@[go_sem] theorem T117ln2 (o k g off n) : aLen Tryd.prog o 117 (.ref k g off n) = some (.int .i64 n) := ln_ref (e := 5) (by kernel_rfl) o k g off n
@[go_sem] theorem T117ix1 (n cs i) : aIndexAddr Tryd.prog 117 (.sl n cs) i = if 0 ≤ i ∧ i < (n : Int) then some (.fptr (cs.drop (i.toNat * 1))) else none := ixs_sl (s := 1) (by kernel_rfl) n cs i
@[go_sem] theorem T117ix2 (k g off n i) : aIndexAddr Tryd.prog 117 (.ref k g off n) i = if 0 ≤ i ∧ i < (n : Int) then some (.ptr k g (off + i.toNat * 1)) else none := ixs_ref (s := 1) (by kernel_rfl) k g off n i
@[go_sem] theorem T117sl1 (n cs lo hi) : aSlice Tryd.prog 117 (.sl n cs) lo hi = if 0 ≤ lo.getD 0 ∧ lo.getD 0 ≤ hi.getD n ∧ hi.getD n ≤ n then some (.sl ((hi.getD n).toNat - (lo.getD 0).toNat) ((cs.take ((hi.getD n).toNat * 1)).drop ((lo.getD 0).toNat * 1))) else none := sl_sl (s := 1) (by kernel_rfl) n cs lo hi
@[go_sem] theorem T117sl2 (k g off n lo hi) : aSlice Tryd.prog 117 (.ref k g off n) lo hi = if 0 ≤ lo.getD 0 ∧ lo.getD 0 ≤ hi.getD n ∧ hi.getD n ≤ n then some (.ref k g (off + (lo.getD 0).toNat * 1) ((hi.getD n).toNat - (lo.getD 0).toNat)) else none := sl_ref (s := 0) (by kernel_rfl) k g off n lo hi
@[go_sem] theorem T117cp (k g off n x o nx) : aCopy Tryd.prog 117 (.ref k g off n) x ⟨o, nx⟩ = (srcOf o x).bind fun q => (rowIf (o k) g).bind (copyR k off n 1 q.1 q.2 o nx) := cp_ref (by kernel_rfl) k g off n x o nx
@[go_sem] theorem T117ms (tg l c o nx) : aMakeSlice Tryd.prog tg 117 l c ⟨o, nx⟩ = if 0 ≤ l ∧ l ≤ c ∧ c * 1 ≤ maxB ∧ c ≤ maxB then some (.ref tg tg 0 l.toNat, ⟨upd o tg (.row ⟨5, 1, tg, false, true, rep [AV.int .u8 0] l.toNat⟩), nx⟩) else none := ms_eq (e := 5) (s := 0) (b := 1) (z := [AV.int .u8 0]) (by kernel_rfl) (by kernel_rfl) (by kernel_rfl) (by kernel_rfl) rfl tg l c o nx
@[go_sem] theorem T117bs (tg n ps o nx) : aBuildSlice Tryd.prog tg 117 n ps ⟨o, nx⟩ = if n * 1 ≤ 16777216 then (fillA (fun i => some (i * 1, 1)) (rep [AV.int .u8 0] n) ps).map (fun cs => (.ref tg tg 0 n, ⟨upd o tg (.row ⟨5, 1, tg, false, true, cs⟩), nx⟩)) else none := bs_eq (e := 5) (s := 0) (z := [AV.int .u8 0]) (by kernel_rfl) (by kernel_rfl) (by kernel_rfl) rfl tg n ps o nx
@[go_sem] theorem T117ap (tg x y o nx) : aAppend Tryd.prog tg 117 117 x y ⟨o, nx⟩ = (srcOf o y).bind fun q => appW tg 5 1 1 x q.1 q.2 o nx := ap_eq (e := 5) (s := 0) (b := 0) (z := [AV.int .u8 0]) (by kernel_rfl) (by kernel_rfl) (by kernel_rfl) (by kernel_rfl) rfl (by kernel_rfl) tg x y o nx
@[go_sem] theorem T122s : tSize Tryd.prog 122 = some 20 := by kernel_rfl
@[go_sem] theorem T122a : tAgg Tryd.prog 122 = some true := by kernel_rfl
@[go_sem] theorem T122z : tZero Tryd.prog 122 = some [AV.int .u64 0, AV.int .u64 0, AV.int .u64 0, AV.int .u64 0, AV.int .u64 0, AV.int .u64 0, AV.int .u64 0, AV.int .u64 0, AV.int .u64 0, AV.int .u64 0, AV.int .u64 0, AV.int .u64 0, AV.int .u64 0, AV.int .u64 0, AV.int .u64 0, AV.int .u64 0, AV.int .u64 0, AV.int .u64 0, AV.int .u64 0, AV.int .u64 0] := by kernel_rfl
@[go_sem] theorem T122ln (o x) : aLen Tryd.prog o 122 x = some (.int .i64 20) := ln_arr (e := 114) (by kernel_rfl) o x
@[go_sem] theorem T122ix1 (cs i) : aIndexAddr Tryd.prog 122 (.fptr cs) i = if 0 ≤ i ∧ i < 20 then some (.fptr (cs.drop (i.toNat * 1))) else none := ixa_fptr (n := 20) (e := 114) (s := 1) (by kernel_rfl) (by kernel_rfl) cs i
@[go_sem] theorem T122ix2 (k g off i) : aIndexAddr Tryd.prog 122 (.ptr k g off) i = if 0 ≤ i ∧ i < 20 then some (.ptr k g (off + i.toNat * 1)) else none := ixa_ptr (n := 20) (e := 114) (s := 1) (by kernel_rfl) (by kernel_rfl) k g off i
@[go_sem] theorem T122iv (cs i) : aIndex Tryd.prog 122 (.agg cs) i = if 0 ≤ i ∧ i < 20 then takeT Tryd.prog 114 (cs.drop (i.toNat * 1)) else none := ixv_agg (n := 20) (e := 114) (s := 1) (by kernel_rfl) (by kernel_rfl) cs i
@[go_sem] theorem T122bd (xs) : aBuild Tryd.prog 122 xs = (fillA (fun i => some (i * 1, 1)) [AV.int .u64 0, AV.int .u64 0, AV.int .u64 0, AV.int .u64 0, AV.int .u64 0, AV.int .u64 0, AV.int .u64 0, AV.int .u64 0, AV.int .u64 0, AV.int .u64 0, AV.int .u64 0, AV.int .u64 0, AV.int .u64 0, AV.int .u64 0, AV.int .u64 0, AV.int .u64 0, AV.int .u64 0, AV.int .u64 0, AV.int .u64 0, AV.int .u64 0] xs).map .agg := bd_array (n := 20) (e := 114) (by kernel_rfl) (by kernel_rfl) (by kernel_rfl) xs
@[go_sem] theorem T122lf : eqLeaves Tryd.prog 122 = some [Leaf.int, Leaf.int, Leaf.int, Leaf.int, Leaf.int, Leaf.int, Leaf.int, Leaf.int, Leaf.int, Leaf.int, Leaf.int, Leaf.int, Leaf.int, Leaf.int, Leaf.int, Leaf.int, Leaf.int, Leaf.int, Leaf.int, Leaf.int] := by kernel_rfl
@[go_sem] theorem T123s : tSize Tryd.prog 123 = some 1 := by kernel_rfl
@[go_sem] theorem T123a : tAgg Tryd.prog 123 = some false := by kernel_rfl
@[go_sem] theorem T123z : tZero Tryd.prog 123 = some [AV.int .u32 0] := by kernel_rfl
@[go_sem] theorem T123u : Tryd.prog.underlying 123 = some (.int .u32) := by kernel_rfl
@[go_sem] theorem T124s : tSize Tryd.prog 124 = some 65 := by kernel_rfl
@[go_sem] theorem T124a : tAgg Tryd.prog 124 = some true := by kernel_rfl
@[go_sem] theorem T124z : tZero Tryd.prog 124 = some [AV.int .u8 0, AV.int .u8 0, AV.int .u8 0, AV.int .u8 0, AV.int .u8 0, AV.int .u8 0, AV.int .u8 0, AV.int .u8 0, AV.int .u8 0, AV.int .u8 0, AV.int .u8 0, AV.int .u8 0, AV.int .u8 0, AV.int .u8 0, AV.int .u8 0, AV.int .u8 0, AV.int .u8 0, AV.int .u8 0, AV.int .u8 0, AV.int .u8 0, AV.int .u8 0, AV.int .u8 0, AV.int .u8 0, AV.int .u8 0, AV.int .u8 0, AV.int .u8 0, AV.int .u8 0, AV.int .u8 0, AV.int .u8 0, AV.int .u8 0, AV.int .u8 0, AV.int .u8 0, AV.int .u8 0, AV.int .u8 0, AV.int .u8 0, AV.int .u8 0, AV.int .u8 0, AV.int .u8 0, AV.int .u8 0, AV.int .u8 0, AV.int .u8 0, AV.int .u8 0, AV.int .u8 0, AV.int .u8 0, AV.int .u8 0, AV.int .u8 0, AV.int .u8 0, AV.int .u8 0, AV.int .u8 0, AV.int .u8 0, AV.int .u8 0, AV.int .u8 0, AV.int .u8 0, AV.int .u8 0, AV.int .u8 0, AV.int .u8 0, AV.int .u8 0, AV.int .u8 0, AV.int .u8 0, AV.int .u8 0, AV.int .u8 0, AV.int .u8 0, AV.int .u8 0, AV.int .u8 0, AV.int .u8 0] := by kernel_rfl
@[go_sem] theorem T124ln (o x) : aLen Tryd.prog o 124 x = some (.int .i64 65) := ln_arr (e := 5) (by kernel_rfl) o x
@[go_sem] theorem T124ix1 (cs i) : aIndexAddr Tryd.prog 124 (.fptr cs) i = if 0 ≤ i ∧ i < 65 then some (.fptr (cs.drop (i.toNat * 1))) else none := ixa_fptr (n := 65) (e := 5) (s := 1) (by kernel_rfl) (by kernel_rfl) cs i
@[go_sem] theorem T124ix2 (k g off i) : aIndexAddr Tryd.prog 124 (.ptr k g off) i = if 0 ≤ i ∧ i < 65 then some (.ptr k g (off + i.toNat * 1)) else none := ixa_ptr (n := 65) (e := 5) (s := 1) (by kernel_rfl) (by kernel_rfl) k g off i
@[go_sem] theorem T124iv (cs i) : aIndex Tryd.prog 124 (.agg cs) i = if 0 ≤ i ∧ i < 65 then takeT Tryd.prog 5 (cs.drop (i.toNat * 1)) else none := ixv_agg (n := 65) (e := 5) (s := 1) (by kernel_rfl) (by kernel_rfl) cs i
@[go_sem] theorem T124bd (xs) : aBuild Tryd.prog 124 xs = (fillA (fun i => some (i * 1, 1)) [AV.int .u8 0, AV.int .u8 0, AV.int .u8 0, AV.int .u8 0, AV.int .u8 0, AV.int .u8 0, AV.int .u8 0, AV.int .u8 0, AV.int .u8 0, AV.int .u8 0, AV.int .u8 0, AV.int .u8 0, AV.int .u8 0, AV.int .u8 0, AV.int .u8 0, AV.int .u8 0, AV.int .u8 0, AV.int .u8 0, AV.int .u8 0, AV.int .u8 0, AV.int .u8 0, AV.int .u8 0, AV.int .u8 0, AV.int .u8 0, AV.int .u8 0, AV.int .u8 0, AV.int .u8 0, AV.int .u8 0, AV.int .u8 0, AV.int .u8 0, AV.int .u8 0, AV.int .u8 0, AV.int .u8 0, AV.int .u8 0, AV.int .u8 0, AV.int .u8 0, AV.int .u8 0, AV.int .u8 0, AV.int .u8 0, AV.int .u8 0, AV.int .u8 0, AV.int .u8 0, AV.int .u8 0, AV.int .u8 0, AV.int .u8 0, AV.int .u8 0, AV.int .u8 0, AV.int .u8 0, AV.int .u8 0, AV.int .u8 0, AV.int .u8 0, AV.int .u8 0, AV.int .u8 0, AV.int .u8 0, AV.int .u8 0, AV.int .u8 0, AV.int .u8 0, AV.int .u8 0, AV.int .u8 0, AV.int .u8 0, AV.int .u8 0, AV.int .u8 0, AV.int .u8 0, AV.int .u8 0, AV.int .u8 0] xs).map .agg := bd_array (n := 65) (e := 5) (by kernel_rfl) (by kernel_rfl) (by kernel_rfl) xs
@[go_sem] theorem T124lf : eqLeaves Tryd.prog 124 = some [Leaf.int, Leaf.int, Leaf.int, Leaf.int, Leaf.int, Leaf.int, Leaf.int, Leaf.int, Leaf.int, Leaf.int, Leaf.int, Leaf.int, Leaf.int, Leaf.int, Leaf.int, Leaf.int, Leaf.int, Leaf.int, Leaf.int, Leaf.int, Leaf.int, Leaf.int, Leaf.int, Leaf.int, Leaf.int, Leaf.int, Leaf.int, Leaf.int, Leaf.int, Leaf.int, Leaf.int, Leaf.int, Leaf.int, Leaf.int, Leaf.int, Leaf.int, Leaf.int, Leaf.int, Leaf.int, Leaf.int, Leaf.int, Leaf.int, Leaf.int, Leaf.int, Leaf.int, Leaf.int, Leaf.int, Leaf.int, Leaf.int, Leaf.int, Leaf.int, Leaf.int, Leaf.int, Leaf.int, Leaf.int, Leaf.int, Leaf.int, Leaf.int, Leaf.int, Leaf.int, Leaf.int, Leaf.int, Leaf.int, Leaf.int, Leaf.int] := by kernel_rfl
@[go_sem] theorem T127s : tSize Tryd.prog 127 = some 32 := by kernel_rfl
@[go_sem] theorem T127a : tAgg Tryd.prog 127 = some true := by kernel_rfl
@[go_sem] theorem T127z : tZero Tryd.prog 127 = some [AV.int .u8 0, AV.int .u8 0, AV.int .u8 0, AV.int .u8 0, AV.int .u8 0, AV.int .u8 0, AV.int .u8 0, AV.int .u8 0, AV.int .u8 0, AV.int .u8 0, AV.int .u8 0, AV.int .u8 0, AV.int .u8 0, AV.int .u8 0, AV.int .u8 0, AV.int .u8 0, AV.int .u8 0, AV.int .u8 0, AV.int .u8 0, AV.int .u8 0, AV.int .u8 0, AV.int .u8 0, AV.int .u8 0, AV.int .u8 0, AV.int .u8 0, AV.int .u8 0, AV.int .u8 0, AV.int .u8 0, AV.int .u8 0, AV.int .u8 0, AV.int .u8 0, AV.int .u8 0] := by kernel_rfl
@[go_sem] theorem T127ln (o x) : aLen Tryd.prog o 127 x = some (.int .i64 32) := ln_arr (e := 5) (by kernel_rfl) o x
@[go_sem] theorem T127ix1 (cs i) : aIndexAddr Tryd.prog 127 (.fptr cs) i = if 0 ≤ i ∧ i < 32 then some (.fptr (cs.drop (i.toNat * 1))) else none := ixa_fptr (n := 32) (e := 5) (s := 1) (by kernel_rfl) (by kernel_rfl) cs i
@[go_sem] theorem T127ix2 (k g off i) : aIndexAddr Tryd.prog 127 (.ptr k g off) i = if 0 ≤ i ∧ i < 32 then some (.ptr k g (off + i.toNat * 1)) else none := ixa_ptr (n := 32) (e := 5) (s := 1) (by kernel_rfl) (by kernel_rfl) k g off i
@[go_sem] theorem T127iv (cs i) : aIndex Tryd.prog 127 (.agg cs) i = if 0 ≤ i ∧ i < 32 then takeT Tryd.prog 5 (cs.drop (i.toNat * 1)) else none := ixv_agg (n := 32) (e := 5) (s := 1) (by kernel_rfl) (by kernel_rfl) cs i
@[go_sem] theorem T127bd (xs) : aBuild Tryd.prog 127 xs = (fillA (fun i => some (i * 1, 1)) [AV.int .u8 0, AV.int .u8 0, AV.int .u8 0, AV.int .u8 0, AV.int .u8 0, AV.int .u8 0, AV.int .u8 0, AV.int .u8 0, AV.int .u8 0, AV.int .u8 0, AV.int .u8 0, AV.int .u8 0, AV.int .u8 0, AV.int .u8 0, AV.int .u8 0, AV.int .u8 0, AV.int .u8 0, AV.int .u8 0, AV.int .u8 0, AV.int .u8 0, AV.int .u8 0, AV.int .u8 0, AV.int .u8 0, AV.int .u8 0, AV.int .u8 0, AV.int .u8 0, AV.int .u8 0, AV.int .u8 0, AV.int .u8 0, AV.int .u8 0, AV.int .u8 0, AV.int .u8 0] xs).map .agg := bd_array (n := 32) (e := 5) (by kernel_rfl) (by kernel_rfl) (by kernel_rfl) xs
@[go_sem] theorem T127lf : eqLeaves Tryd.prog 127 = some [Leaf.int, Leaf.int, Leaf.int, Leaf.int, Leaf.int, Leaf.int, Leaf.int, Leaf.int, Leaf.int, Leaf.int, Leaf.int, Leaf.int, Leaf.int, Leaf.int, Leaf.int, Leaf.int, Leaf.int, Leaf.int, Leaf.int, Leaf.int, Leaf.int, Leaf.int, Leaf.int, Leaf.int, Leaf.int, Leaf.int, Leaf.int, Leaf.int, Leaf.int, Leaf.int, Leaf.int, Leaf.int] := by kernel_rfl
@[go_sem] theorem T128s : tSize Tryd.prog 128 = some 64 := by kernel_rfl
@[go_sem] theorem T128a : tAgg Tryd.prog 128 = some true := by kernel_rfl
@[go_sem] theorem T128z : tZero Tryd.prog 128 = some [AV.int .u8 0, AV.int .u8 0, AV.int .u8 0, AV.int .u8 0, AV.int .u8 0, AV.int .u8 0, AV.int .u8 0, AV.int .u8 0, AV.int .u8 0, AV.int .u8 0, AV.int .u8 0, AV.int .u8 0, AV.int .u8 0, AV.int .u8 0, AV.int .u8 0, AV.int .u8 0, AV.int .u8 0, AV.int .u8 0, AV.int .u8 0, AV.int .u8 0, AV.int .u8 0, AV.int .u8 0, AV.int .u8 0, AV.int .u8 0, AV.int .u8 0, AV.int .u8 0, AV.int .u8 0, AV.int .u8 0, AV.int .u8 0, AV.int .u8 0, AV.int .u8 0, AV.int .u8 0, AV.int .u8 0, AV.int .u8 0, AV.int .u8 0, AV.int .u8 0, AV.int .u8 0, AV.int .u8 0, AV.int .u8 0, AV.int .u8 0, AV.int .u8 0, AV.int .u8 0, AV.int .u8 0, AV.int .u8 0, AV.int .u8 0, AV.int .u8 0, AV.int .u8 0, AV.int .u8 0, AV.int .u8 0, AV.int .u8 0, AV.int .u8 0, AV.int .u8 0, AV.int .u8 0, AV.int .u8 0, AV.int .u8 0, AV.int .u8 0, AV.int .u8 0, AV.int .u8 0, AV.int .u8 0, AV.int .u8 0, AV.int .u8 0, AV.int .u8 0, AV.int .u8 0, AV.int .u8 0] := by kernel_rfl
@[go_sem] theorem T128ln (o x) : aLen Tryd.prog o 128 x = some (.int .i64 64) := ln_arr (e := 5) (by kernel_rfl) o x
@[go_sem] theorem T128ix1 (cs i) : aIndexAddr Tryd.prog 128 (.fptr cs) i = if 0 ≤ i ∧ i < 64 then some (.fptr (cs.drop (i.toNat * 1))) else none := ixa_fptr (n := 64) (e := 5) (s := 1) (by kernel_rfl) (by kernel_rfl) cs i
@[go_sem] theorem T128ix2 (k g off i) : aIndexAddr Tryd.prog 128 (.ptr k g off) i = if 0 ≤ i ∧ i < 64 then some (.ptr k g (off + i.toNat * 1)) else none := ixa_ptr (n := 64) (e := 5) (s := 1) (by kernel_rfl) (by kernel_rfl) k g off i
@[go_sem] theorem T128iv (cs i) : aIndex Tryd.prog 128 (.agg cs) i = if 0 ≤ i ∧ i < 64 then takeT Tryd.prog 5 (cs.drop (i.toNat * 1)) else none := ixv_agg (n := 64) (e := 5) (s := 1) (by kernel_rfl) (by kernel_rfl) cs i
@[go_sem] theorem T128bd (xs) : aBuild Tryd.prog 128 xs = (fillA (fun i => some (i * 1, 1)) [AV.int .u8 0, AV.int .u8 0, AV.int .u8 0, AV.int .u8 0, AV.int .u8 0, AV.int .u8 0, AV.int .u8 0, AV.int .u8 0, AV.int .u8 0, AV.int .u8 0, AV.int .u8 0, AV.int .u8 0, AV.int .u8 0, AV.int .u8 0, AV.int .u8 0, AV.int .u8 0, AV.int .u8 0, AV.int .u8 0, AV.int .u8 0, AV.int .u8 0, AV.int .u8 0, AV.int .u8 0, AV.int .u8 0, AV.int .u8 0, AV.int .u8 0, AV.int .u8 0, AV.int .u8 0, AV.int .u8 0, AV.int .u8 0, AV.int .u8 0, AV.int .u8 0, AV.int .u8 0, AV.int .u8 0, AV.int .u8 0, AV.int .u8 0, AV.int .u8 0, AV.int .u8 0, AV.int .u8 0, AV.int .u8 0, AV.int .u8 0, AV.int .u8 0, AV.int .u8 0, AV.int .u8 0, AV.int .u8 0, AV.int .u8 0, AV.int .u8 0, AV.int .u8 0, AV.int .u8 0, AV.int .u8 0, AV.int .u8 0, AV.int .u8 0, AV.int .u8 0, AV.int .u8 0, AV.int .u8 0, AV.int .u8 0, AV.int .u8 0, AV.int .u8 0, AV.int .u8 0, AV.int .u8 0, AV.int .u8 0, AV.int .u8 0, AV.int .u8 0, AV.int .u8 0, AV.int .u8 0] xs).map .agg := bd_array (n := 64) (e := 5) (by kernel_rfl) (by kernel_rfl) (by kernel_rfl) xs
@[go_sem] theorem T128lf : eqLeaves Tryd.prog 128 = some [Leaf.int, Leaf.int, Leaf.int, Leaf.int, Leaf.int, Leaf.int, Leaf.int, Leaf.int, Leaf.int, Leaf.int, Leaf.int, Leaf.int, Leaf.int, Leaf.int, Leaf.int, Leaf.int, Leaf.int, Leaf.int, Leaf.int, Leaf.int, Leaf.int, Leaf.int, Leaf.int, Leaf.int, Leaf.int, Leaf.int, Leaf.int, Leaf.int, Leaf.int, Leaf.int, Leaf.int, Leaf.int, Leaf.int, Leaf.int, Leaf.int, Leaf.int, Leaf.int, Leaf.int, Leaf.int, Leaf.int, Leaf.int, Leaf.int, Leaf.int, Leaf.int, Leaf.int, Leaf.int, Leaf.int, Leaf.int, Leaf.int, Leaf.int, Leaf.int, Leaf.int, Leaf.int, Leaf.int, Leaf.int, Leaf.int, Leaf.int, Leaf.int, Leaf.int, Leaf.int, Leaf.int, Leaf.int, Leaf.int, Leaf.int] := by kernel_rfl
@[go_sem] theorem T130s : tSize Tryd.prog 130 = some 4 := by kernel_rfl
@[go_sem] theorem T130a : tAgg Tryd.prog 130 = some true := by kernel_rfl
@[go_sem] theorem T130z : tZero Tryd.prog 130 = some [AV.nilp, AV.nilp, AV.nilp, AV.str []] := by kernel_rfl
@[go_sem] theorem T130f0p (k g off) : fieldAddrA Tryd.prog 130 0 (.ptr k g off) = some (.ptr k g (off + 0)) := fa_ptr (s := 0) (ft := 17) (by kernel_rfl) (by kernel_rfl) k g off
@[go_sem] theorem T130f0q (cs) : fieldAddrA Tryd.prog 130 0 (.fptr cs) = some (.fptr (cs.drop 0)) := fa_fptr (s := 0) (ft := 17) (by kernel_rfl) (by kernel_rfl) cs
@[go_sem] theorem T130f0v (cs) : fieldA Tryd.prog 130 0 (.agg cs) = takeT Tryd.prog 17 (cs.drop 0) := fi_agg (by kernel_rfl) cs
@[go_sem] theorem T130f1p (k g off) : fieldAddrA Tryd.prog 130 1 (.ptr k g off) = some (.ptr k g (off + 1)) := fa_ptr (s := 0) (ft := 17) (by kernel_rfl) (by kernel_rfl) k g off
@[go_sem] theorem T130f1q (cs) : fieldAddrA Tryd.prog 130 1 (.fptr cs) = some (.fptr (cs.drop 1)) := fa_fptr (s := 0) (ft := 17) (by kernel_rfl) (by kernel_rfl) cs
@[go_sem] theorem T130f1v (cs) : fieldA Tryd.prog 130 1 (.agg cs) = takeT Tryd.prog 17 (cs.drop 1) := fi_agg (by kernel_rfl) cs
@[go_sem] theorem T130f2p (k g off) : fieldAddrA Tryd.prog 130 2 (.ptr k g off) = some (.ptr k g (off + 2)) := fa_ptr (s := 0) (ft := 17) (by kernel_rfl) (by kernel_rfl) k g off
@[go_sem] theorem T130f2q (cs) : fieldAddrA Tryd.prog 130 2 (.fptr cs) = some (.fptr (cs.drop 2)) := fa_fptr (s := 0) (ft := 17) (by kernel_rfl) (by kernel_rfl) cs
@[go_sem] theorem T130f2v (cs) : fieldA Tryd.prog 130 2 (.agg cs) = takeT Tryd.prog 17 (cs.drop 2) := fi_agg (by kernel_rfl) cs
@[go_sem] theorem T130f3p (k g off) : fieldAddrA Tryd.prog 130 3 (.ptr k g off) = some (.ptr k g (off + 3)) := fa_ptr (s := 0) (ft := 9) (by kernel_rfl) (by kernel_rfl) k g off
@[go_sem] theorem T130f3q (cs) : fieldAddrA Tryd.prog 130 3 (.fptr cs) = some (.fptr (cs.drop 3)) := fa_fptr (s := 0) (ft := 9) (by kernel_rfl) (by kernel_rfl) cs
@[go_sem] theorem T130f3v (cs) : fieldA Tryd.prog 130 3 (.agg cs) = takeT Tryd.prog 9 (cs.drop 3) := fi_agg (by kernel_rfl) cs
@[go_sem] theorem T130bd (xs) : aBuild Tryd.prog 130 xs = (fillA (fun i => ([(0, 1), (1, 1), (2, 1), (3, 1)] : List (Nat × Nat))[i]?) [AV.nilp, AV.nilp, AV.nilp, AV.str []] xs).map .agg := by kernel_rfl
@[go_sem] theorem T131s : tSize Tryd.prog 131 = some 4 := by kernel_rfl
@[go_sem] theorem T131a : tAgg Tryd.prog 131 = some true := by kernel_rfl
@[go_sem] theorem T131z : tZero Tryd.prog 131 = some [AV.nilp, AV.nilp, AV.nilp, AV.str []] := by kernel_rfl
@[go_sem] theorem T131f0p (k g off) : fieldAddrA Tryd.prog 131 0 (.ptr k g off) = some (.ptr k g (off + 0)) := fa_ptr (s := 0) (ft := 17) (by kernel_rfl) (by kernel_rfl) k g off
@[go_sem] theorem T131f0q (cs) : fieldAddrA Tryd.prog 131 0 (.fptr cs) = some (.fptr (cs.drop 0)) := fa_fptr (s := 0) (ft := 17) (by kernel_rfl) (by kernel_rfl) cs
@[go_sem] theorem T131f0v (cs) : fieldA Tryd.prog 131 0 (.agg cs) = takeT Tryd.prog 17 (cs.drop 0) := fi_agg (by kernel_rfl) cs
@[go_sem] theorem T131f1p (k g off) : fieldAddrA Tryd.prog 131 1 (.ptr k g off) = some (.ptr k g (off + 1)) := fa_ptr (s := 0) (ft := 17) (by kernel_rfl) (by kernel_rfl) k g off
@[go_sem] theorem T131f1q (cs) : fieldAddrA Tryd.prog 131 1 (.fptr cs) = some (.fptr (cs.drop 1)) := fa_fptr (s := 0) (ft := 17) (by kernel_rfl) (by kernel_rfl) cs
@[go_sem] theorem T131f1v (cs) : fieldA Tryd.prog 131 1 (.agg cs) = takeT Tryd.prog 17 (cs.drop 1) := fi_agg (by kernel_rfl) cs
@[go_sem] theorem T131f2p (k g off) : fieldAddrA Tryd.prog 131 2 (.ptr k g off) = some (.ptr k g (off + 2)) := fa_ptr (s := 0) (ft := 17) (by kernel_rfl) (by kernel_rfl) k g off
@[go_sem] theorem T131f2q (cs) : fieldAddrA Tryd.prog 131 2 (.fptr cs) = some (.fptr (cs.drop 2)) := fa_fptr (s := 0) (ft := 17) (by kernel_rfl) (by kernel_rfl) cs
@[go_sem] theorem T131f2v (cs) : fieldA Tryd.prog 131 2 (.agg cs) = takeT Tryd.prog 17 (cs.drop 2) := fi_agg (by kernel_rfl) cs
@[go_sem] theorem T131f3p (k g off) : fieldAddrA Tryd.prog 131 3 (.ptr k g off) = some (.ptr k g (off + 3)) := fa_ptr (s := 0) (ft := 9) (by kernel_rfl) (by kernel_rfl) k g off
@[go_sem] theorem T131f3q (cs) : fieldAddrA Tryd.prog 131 3 (.fptr cs) = some (.fptr (cs.drop 3)) := fa_fptr (s := 0) (ft := 9) (by kernel_rfl) (by kernel_rfl) cs
@[go_sem] theorem T131f3v (cs) : fieldA Tryd.prog 131 3 (.agg cs) = takeT Tryd.prog 9 (cs.drop 3) := fi_agg (by kernel_rfl) cs
@[go_sem] theorem T131bd (xs) : aBuild Tryd.prog 131 xs = (fillA (fun i => ([(0, 1), (1, 1), (2, 1), (3, 1)] : List (Nat × Nat))[i]?) [AV.nilp, AV.nilp, AV.nilp, AV.str []] xs).map .agg := by kernel_rfl
@[go_sem] theorem T132s : tSize Tryd.prog 132 = some 0 := by kernel_rfl
@[go_sem] theorem T132a : tAgg Tryd.prog 132 = some true := by kernel_rfl
@[go_sem] theorem T132z : tZero Tryd.prog 132 = some [] := by kernel_rfl
@[go_sem] theorem T132ln (o x) : aLen Tryd.prog o 132 x = some (.int .i64 0) := ln_arr (e := 16) (by kernel_rfl) o x
@[go_sem] theorem T132ix1 (cs i) : aIndexAddr Tryd.prog 132 (.fptr cs) i = if 0 ≤ i ∧ i < 0 then some (.fptr (cs.drop (i.toNat * 1))) else none := ixa_fptr (n := 0) (e := 16) (s := 1) (by kernel_rfl) (by kernel_rfl) cs i
@[go_sem] theorem T132ix2 (k g off i) : aIndexAddr Tryd.prog 132 (.ptr k g off) i = if 0 ≤ i ∧ i < 0 then some (.ptr k g (off + i.toNat * 1)) else none := ixa_ptr (n := 0) (e := 16) (s := 1) (by kernel_rfl) (by kernel_rfl) k g off i
@[go_sem] theorem T132iv (cs i) : aIndex Tryd.prog 132 (.agg cs) i = if 0 ≤ i ∧ i < 0 then takeT Tryd.prog 16 (cs.drop (i.toNat * 1)) else none := ixv_agg (n := 0) (e := 16) (s := 1) (by kernel_rfl) (by kernel_rfl) cs i
@[go_sem] theorem T132bd (xs) : aBuild Tryd.prog 132 xs = (fillA (fun i => some (i * 1, 1)) [] xs).map .agg := bd_array (n := 0) (e := 16) (by kernel_rfl) (by kernel_rfl) (by kernel_rfl) xs
@[go_sem] theorem T133s : tSize Tryd.prog 133 = some 0 := by kernel_rfl
@[go_sem] theorem T133a : tAgg Tryd.prog 133 = some true := by kernel_rfl
@[go_sem] theorem T133z : tZero Tryd.prog 133 = some [] := by kernel_rfl
@[go_sem] theorem T133bd (xs) : aBuild Tryd.prog 133 xs = (fillA (fun i => ([(0, 0)] : List (Nat × Nat))[i]?) [] xs).map .agg := by kernel_rfl
@[go_sem] theorem T134s : tSize Tryd.prog 134 = some 0 := by kernel_rfl
@[go_sem] theorem T134a : tAgg Tryd.prog 134 = some true := by kernel_rfl
@[go_sem] theorem T134z : tZero Tryd.prog 134 = some [] := by kernel_rfl
@[go_sem] theorem T134bd (xs) : aBuild Tryd.prog 134 xs = (fillA (fun i => ([(0, 0)] : List (Nat × Nat))[i]?) [] xs).map .agg := by kernel_rfl
@[go_sem] theorem T135s : tSize Tryd.prog 135 = some 1 := by kernel_rfl
@[go_sem] theorem T135a : tAgg Tryd.prog 135 = some false := by kernel_rfl
@[go_sem] theorem T135z : tZero Tryd.prog 135 = some [AV.int .u8 0] := by kernel_rfl
@[go_sem] theorem T135u : Tryd.prog.underlying 135 = some (.int .u8) := by kernel_rfl
@[go_sem] theorem T136s : tSize Tryd.prog 136 = some 1 := by kernel_rfl
@[go_sem] theorem T136a : tAgg Tryd.prog 136 = some false := by kernel_rfl
@[go_sem] theorem T136z : tZero Tryd.prog 136 = some [AV.int .u8 0] := by kernel_rfl
@[go_sem] theorem T136u : Tryd.prog.underlying 136 = some (.int .u8) := by kernel_rfl
@[go_sem] theorem T138s : tSize Tryd.prog 138 = some 1 := by kernel_rfl
@[go_sem] theorem T138a : tAgg Tryd.prog 138 = some false := by kernel_rfl
@[go_sem] theorem T138z : tZero Tryd.prog 138 = some [AV.nilp] := by kernel_rfl
@[go_sem] theorem T139s : tSize Tryd.prog 139 = some 1 := by kernel_rfl
@[go_sem] theorem T139a : tAgg Tryd.prog 139 = some false := by kernel_rfl
@[go_sem] theorem T139z : tZero Tryd.prog 139 = some [AV.int .i32 0] := by kernel_rfl
@[go_sem] theorem T139u : Tryd.prog.underlying 139 = some (.int .i32) := by kernel_rfl
@[go_sem] theorem T140s : tSize Tryd.prog 140 = some 1 := by kernel_rfl
@[go_sem] theorem T140a : tAgg Tryd.prog 140 = some false := by kernel_rfl
@[go_sem] theorem T140z : tZero Tryd.prog 140 = some [AV.int .i32 0] := by kernel_rfl
@[go_sem] theorem T140u : Tryd.prog.underlying 140 = some (.int .i32) := by kernel_rfl
@[go_sem] theorem T141s : tSize Tryd.prog 141 = some 11 := by kernel_rfl
@[go_sem] theorem T141a : tAgg Tryd.prog 141 = some true := by kernel_rfl
@[go_sem] theorem T141f0p (k g off) : fieldAddrA Tryd.prog 141 0 (.ptr k g off) = some (.ptr k g (off + 0)) := fa_ptr (s := 0) (ft := 12) (by kernel_rfl) (by kernel_rfl) k g off
@[go_sem] theorem T141f0q (cs) : fieldAddrA Tryd.prog 141 0 (.fptr cs) = some (.fptr (cs.drop 0)) := fa_fptr (s := 0) (ft := 12) (by kernel_rfl) (by kernel_rfl) cs
@[go_sem] theorem T141f0v (cs) : fieldA Tryd.prog 141 0 (.agg cs) = takeT Tryd.prog 12 (cs.drop 0) := fi_agg (by kernel_rfl) cs
@[go_sem] theorem T141f1p (k g off) : fieldAddrA Tryd.prog 141 1 (.ptr k g off) = some (.ptr k g (off + 1)) := fa_ptr (s := 0) (ft := 12) (by kernel_rfl) (by kernel_rfl) k g off
@[go_sem] theorem T141f1q (cs) : fieldAddrA Tryd.prog 141 1 (.fptr cs) = some (.fptr (cs.drop 1)) := fa_fptr (s := 0) (ft := 12) (by kernel_rfl) (by kernel_rfl) cs
@[go_sem] theorem T141f1v (cs) : fieldA Tryd.prog 141 1 (.agg cs) = takeT Tryd.prog 12 (cs.drop 1) := fi_agg (by kernel_rfl) cs
@[go_sem] theorem T141f2p (k g off) : fieldAddrA Tryd.prog 141 2 (.ptr k g off) = some (.ptr k g (off + 2)) := fa_ptr (s := 0) (ft := 123) (by kernel_rfl) (by kernel_rfl) k g off
@[go_sem] theorem T141f2q (cs) : fieldAddrA Tryd.prog 141 2 (.fptr cs) = some (.fptr (cs.drop 2)) := fa_fptr (s := 0) (ft := 123) (by kernel_rfl) (by kernel_rfl) cs
@[go_sem] theorem T141f2v (cs) : fieldA Tryd.prog 141 2 (.agg cs) = takeT Tryd.prog 123 (cs.drop 2) := fi_agg (by kernel_rfl) cs
@[go_sem] theorem T141f3p (k g off) : fieldAddrA Tryd.prog 141 3 (.ptr k g off) = some (.ptr k g (off + 3)) := fa_ptr (s := 0) (ft := 135) (by kernel_rfl) (by kernel_rfl) k g off
@[go_sem] theorem T141f3q (cs) : fieldAddrA Tryd.prog 141 3 (.fptr cs) = some (.fptr (cs.drop 3)) := fa_fptr (s := 0) (ft := 135) (by kernel_rfl) (by kernel_rfl) cs
@[go_sem] theorem T141f3v (cs) : fieldA Tryd.prog 141 3 (.agg cs) = takeT Tryd.prog 135 (cs.drop 3) := fi_agg (by kernel_rfl) cs
@[go_sem] theorem T141f4p (k g off) : fieldAddrA Tryd.prog 141 4 (.ptr k g off) = some (.ptr k g (off + 4)) := fa_ptr (s := 0) (ft := 5) (by kernel_rfl) (by kernel_rfl) k g off
@[go_sem] theorem T141f4q (cs) : fieldAddrA Tryd.prog 141 4 (.fptr cs) = some (.fptr (cs.drop 4)) := fa_fptr (s := 0) (ft := 5) (by kernel_rfl) (by kernel_rfl) cs
@[go_sem] theorem T141f4v (cs) : fieldA Tryd.prog 141 4 (.agg cs) = takeT Tryd.prog 5 (cs.drop 4) := fi_agg (by kernel_rfl) cs
@[go_sem] theorem T141f5p (k g off) : fieldAddrA Tryd.prog 141 5 (.ptr k g off) = some (.ptr k g (off + 5)) := fa_ptr (s := 0) (ft := 5) (by kernel_rfl) (by kernel_rfl) k g off
@[go_sem] theorem T141f5q (cs) : fieldAddrA Tryd.prog 141 5 (.fptr cs) = some (.fptr (cs.drop 5)) := fa_fptr (s := 0) (ft := 5) (by kernel_rfl) (by kernel_rfl) cs
@[go_sem] theorem T141f5v (cs) : fieldA Tryd.prog 141 5 (.agg cs) = takeT Tryd.prog 5 (cs.drop 5) := fi_agg (by kernel_rfl) cs
@[go_sem] theorem T141f6p (k g off) : fieldAddrA Tryd.prog 141 6 (.ptr k g off) = some (.ptr k g (off + 6)) := fa_ptr (s := 0) (ft := 136) (by kernel_rfl) (by kernel_rfl) k g off
@[go_sem] theorem T141f6q (cs) : fieldAddrA Tryd.prog 141 6 (.fptr cs) = some (.fptr (cs.drop 6)) := fa_fptr (s := 0) (ft := 136) (by kernel_rfl) (by kernel_rfl) cs
@[go_sem] theorem T141f6v (cs) : fieldA Tryd.prog 141 6 (.agg cs) = takeT Tryd.prog 136 (cs.drop 6) := fi_agg (by kernel_rfl) cs
@[go_sem] theorem T141f7p (k g off) : fieldAddrA Tryd.prog 141 7 (.ptr k g off) = some (.ptr k g (off + 7)) := fa_ptr (s := 0) (ft := 137) (by kernel_rfl) (by kernel_rfl) k g off
@[go_sem] theorem T141f7q (cs) : fieldAddrA Tryd.prog 141 7 (.fptr cs) = some (.fptr (cs.drop 7)) := fa_fptr (s := 0) (ft := 137) (by kernel_rfl) (by kernel_rfl) cs
@[go_sem] theorem T141f7v (cs) : fieldA Tryd.prog 141 7 (.agg cs) = takeT Tryd.prog 137 (cs.drop 7) := fi_agg (by kernel_rfl) cs
@[go_sem] theorem T141f8p (k g off) : fieldAddrA Tryd.prog 141 8 (.ptr k g off) = some (.ptr k g (off + 8)) := fa_ptr (s := 0) (ft := 138) (by kernel_rfl) (by kernel_rfl) k g off
@[go_sem] theorem T141f8q (cs) : fieldAddrA Tryd.prog 141 8 (.fptr cs) = some (.fptr (cs.drop 8)) := fa_fptr (s := 0) (ft := 138) (by kernel_rfl) (by kernel_rfl) cs
@[go_sem] theorem T141f8v (cs) : fieldA Tryd.prog 141 8 (.agg cs) = takeT Tryd.prog 138 (cs.drop 8) := fi_agg (by kernel_rfl) cs
@[go_sem] theorem T141f9p (k g off) : fieldAddrA Tryd.prog 141 9 (.ptr k g off) = some (.ptr k g (off + 9)) := fa_ptr (s := 0) (ft := 139) (by kernel_rfl) (by kernel_rfl) k g off
@[go_sem] theorem T141f9q (cs) : fieldAddrA Tryd.prog 141 9 (.fptr cs) = some (.fptr (cs.drop 9)) := fa_fptr (s := 0) (ft := 139) (by kernel_rfl) (by kernel_rfl) cs
@[go_sem] theorem T141f9v (cs) : fieldA Tryd.prog 141 9 (.agg cs) = takeT Tryd.prog 139 (cs.drop 9) := fi_agg (by kernel_rfl) cs
@[go_sem] theorem T141f10p (k g off) : fieldAddrA Tryd.prog 141 10 (.ptr k g off) = some (.ptr k g (off + 10)) := fa_ptr (s := 0) (ft := 140) (by kernel_rfl) (by kernel_rfl) k g off
@[go_sem] theorem T141f10q (cs) : fieldAddrA Tryd.prog 141 10 (.fptr cs) = some (.fptr (cs.drop 10)) := fa_fptr (s := 0) (ft := 140) (by kernel_rfl) (by kernel_rfl) cs
@[go_sem] theorem T141f10v (cs) : fieldA Tryd.prog 141 10 (.agg cs) = takeT Tryd.prog 140 (cs.drop 10) := fi_agg (by kernel_rfl) cs
@[go_sem] theorem T142s : tSize Tryd.prog 142 = some 11 := by kernel_rfl
@[go_sem] theorem T142a : tAgg Tryd.prog 142 = some true := by kernel_rfl
@[go_sem] theorem T142f0p (k g off) : fieldAddrA Tryd.prog 142 0 (.ptr k g off) = some (.ptr k g (off + 0)) := fa_ptr (s := 0) (ft := 12) (by kernel_rfl) (by kernel_rfl) k g off
@[go_sem] theorem T142f0q (cs) : fieldAddrA Tryd.prog 142 0 (.fptr cs) = some (.fptr (cs.drop 0)) := fa_fptr (s := 0) (ft := 12) (by kernel_rfl) (by kernel_rfl) cs
@[go_sem] theorem T142f0v (cs) : fieldA Tryd.prog 142 0 (.agg cs) = takeT Tryd.prog 12 (cs.drop 0) := fi_agg (by kernel_rfl) cs
@[go_sem] theorem T142f1p (k g off) : fieldAddrA Tryd.prog 142 1 (.ptr k g off) = some (.ptr k g (off + 1)) := fa_ptr (s := 0) (ft := 12) (by kernel_rfl) (by kernel_rfl) k g off
@[go_sem] theorem T142f1q (cs) : fieldAddrA Tryd.prog 142 1 (.fptr cs) = some (.fptr (cs.drop 1)) := fa_fptr (s := 0) (ft := 12) (by kernel_rfl) (by kernel_rfl) cs
@[go_sem] theorem T142f1v (cs) : fieldA Tryd.prog 142 1 (.agg cs) = takeT Tryd.prog 12 (cs.drop 1) := fi_agg (by kernel_rfl) cs
@[go_sem] theorem T142f2p (k g off) : fieldAddrA Tryd.prog 142 2 (.ptr k g off) = some (.ptr k g (off + 2)) := fa_ptr (s := 0) (ft := 123) (by kernel_rfl) (by kernel_rfl) k g off
@[go_sem] theorem T142f2q (cs) : fieldAddrA Tryd.prog 142 2 (.fptr cs) = some (.fptr (cs.drop 2)) := fa_fptr (s := 0) (ft := 123) (by kernel_rfl) (by kernel_rfl) cs
@[go_sem] theorem T142f2v (cs) : fieldA Tryd.prog 142 2 (.agg cs) = takeT Tryd.prog 123 (cs.drop 2) := fi_agg (by kernel_rfl) cs
@[go_sem] theorem T142f3p (k g off) : fieldAddrA Tryd.prog 142 3 (.ptr k g off) = some (.ptr k g (off + 3)) := fa_ptr (s := 0) (ft := 135) (by kernel_rfl) (by kernel_rfl) k g off
@[go_sem] theorem T142f3q (cs) : fieldAddrA Tryd.prog 142 3 (.fptr cs) = some (.fptr (cs.drop 3)) := fa_fptr (s := 0) (ft := 135) (by kernel_rfl) (by kernel_rfl) cs
@[go_sem] theorem T142f3v (cs) : fieldA Tryd.prog 142 3 (.agg cs) = takeT Tryd.prog 135 (cs.drop 3) := fi_agg (by kernel_rfl) cs
@[go_sem] theorem T142f4p (k g off) : fieldAddrA Tryd.prog 142 4 (.ptr k g off) = some (.ptr k g (off + 4)) := fa_ptr (s := 0) (ft := 5) (by kernel_rfl) (by kernel_rfl) k g off
@[go_sem] theorem T142f4q (cs) : fieldAddrA Tryd.prog 142 4 (.fptr cs) = some (.fptr (cs.drop 4)) := fa_fptr (s := 0) (ft := 5) (by kernel_rfl) (by kernel_rfl) cs
@[go_sem] theorem T142f4v (cs) : fieldA Tryd.prog 142 4 (.agg cs) = takeT Tryd.prog 5 (cs.drop 4) := fi_agg (by kernel_rfl) cs
@[go_sem] theorem T142f5p (k g off) : fieldAddrA Tryd.prog 142 5 (.ptr k g off) = some (.ptr k g (off + 5)) := fa_ptr (s := 0) (ft := 5) (by kernel_rfl) (by kernel_rfl) k g off
@[go_sem] theorem T142f5q (cs) : fieldAddrA Tryd.prog 142 5 (.fptr cs) = some (.fptr (cs.drop 5)) := fa_fptr (s := 0) (ft := 5) (by kernel_rfl) (by kernel_rfl) cs
@[go_sem] theorem T142f5v (cs) : fieldA Tryd.prog 142 5 (.agg cs) = takeT Tryd.prog 5 (cs.drop 5) := fi_agg (by kernel_rfl) cs
@[go_sem] theorem T142f6p (k g off) : fieldAddrA Tryd.prog 142 6 (.ptr k g off) = some (.ptr k g (off + 6)) := fa_ptr (s := 0) (ft := 136) (by kernel_rfl) (by kernel_rfl) k g off
@[go_sem] theorem T142f6q (cs) : fieldAddrA Tryd.prog 142 6 (.fptr cs) = some (.fptr (cs.drop 6)) := fa_fptr (s := 0) (ft := 136) (by kernel_rfl) (by kernel_rfl) cs
@[go_sem] theorem T142f6v (cs) : fieldA Tryd.prog 142 6 (.agg cs) = takeT Tryd.prog 136 (cs.drop 6) := fi_agg (by kernel_rfl) cs
@[go_sem] theorem T142f7p (k g off) : fieldAddrA Tryd.prog 142 7 (.ptr k g off) = some (.ptr k g (off + 7)) := fa_ptr (s := 0) (ft := 137) (by kernel_rfl) (by kernel_rfl) k g off
@[go_sem] theorem T142f7q (cs) : fieldAddrA Tryd.prog 142 7 (.fptr cs) = some (.fptr (cs.drop 7)) := fa_fptr (s := 0) (ft := 137) (by kernel_rfl) (by kernel_rfl) cs
@[go_sem] theorem T142f7v (cs) : fieldA Tryd.prog 142 7 (.agg cs) = takeT Tryd.prog 137 (cs.drop 7) := fi_agg (by kernel_rfl) cs
@[go_sem] theorem T142f8p (k g off) : fieldAddrA Tryd.prog 142 8 (.ptr k g off) = some (.ptr k g (off + 8)) := fa_ptr (s := 0) (ft := 138) (by kernel_rfl) (by kernel_rfl) k g off
@[go_sem] theorem T142f8q (cs) : fieldAddrA Tryd.prog 142 8 (.fptr cs) = some (.fptr (cs.drop 8)) := fa_fptr (s := 0) (ft := 138) (by kernel_rfl) (by kernel_rfl) cs
@[go_sem] theorem T142f8v (cs) : fieldA Tryd.prog 142 8 (.agg cs) = takeT Tryd.prog 138 (cs.drop 8) := fi_agg (by kernel_rfl) cs
@[go_sem] theorem T142f9p (k g off) : fieldAddrA Tryd.prog 142 9 (.ptr k g off) = some (.ptr k g (off + 9)) := fa_ptr (s := 0) (ft := 139) (by kernel_rfl) (by kernel_rfl) k g off
@[go_sem] theorem T142f9q (cs) : fieldAddrA Tryd.prog 142 9 (.fptr cs) = some (.fptr (cs.drop 9)) := fa_fptr (s := 0) (ft := 139) (by kernel_rfl) (by kernel_rfl) cs
@[go_sem] theorem T142f9v (cs) : fieldA Tryd.prog 142 9 (.agg cs) = takeT Tryd.prog 139 (cs.drop 9) := fi_agg (by kernel_rfl) cs
@[go_sem] theorem T142f10p (k g off) : fieldAddrA Tryd.prog 142 10 (.ptr k g off) = some (.ptr k g (off + 10)) := fa_ptr (s := 0) (ft := 140) (by kernel_rfl) (by kernel_rfl) k g off
@[go_sem] theorem T142f10q (cs) : fieldAddrA Tryd.prog 142 10 (.fptr cs) = some (.fptr (cs.drop 10)) := fa_fptr (s := 0) (ft := 140) (by kernel_rfl) (by kernel_rfl) cs
@[go_sem] theorem T142f10v (cs) : fieldA Tryd.prog 142 10 (.agg cs) = takeT Tryd.prog 140 (cs.drop 10) := fi_agg (by kernel_rfl) cs
@[go_sem] theorem C2_3 (tg k n o nx) : aConvert Tryd.prog tg 2 3 (.int k n) ⟨o, nx⟩ = some (.int .i64 (IntKind.wrap .i64 n), ⟨o, nx⟩) := cv_int (td := .int .i64) (by kernel_rfl) (by kernel_rfl) tg k n o nx
@[go_sem] theorem C2_5 (tg k n o nx) : aConvert Tryd.prog tg 2 5 (.int k n) ⟨o, nx⟩ = some (.int .u8 (IntKind.wrap .u8 n), ⟨o, nx⟩) := cv_int (td := .int .i64) (by kernel_rfl) (by kernel_rfl) tg k n o nx
@[go_sem] theorem C2_44 (tg k n o nx) : aConvert Tryd.prog tg 2 44 (.int k n) ⟨o, nx⟩ = some (.int .i64 (IntKind.wrap .i64 n), ⟨o, nx⟩) := cv_int (td := .int .i64) (by kernel_rfl) (by kernel_rfl) tg k n o nx
@[go_sem] theorem C2_64 (tg k n o nx) : aConvert Tryd.prog tg 2 64 (.int k n) ⟨o, nx⟩ = some (.int .u64 (IntKind.wrap .u64 n), ⟨o, nx⟩) := cv_int (td := .int .i64) (by kernel_rfl) (by kernel_rfl) tg k n o nx
@[go_sem] theorem C2_114 (tg k n o nx) : aConvert Tryd.prog tg 2 114 (.int k n) ⟨o, nx⟩ = some (.int .u64 (IntKind.wrap .u64 n), ⟨o, nx⟩) := cv_int (td := .int .i64) (by kernel_rfl) (by kernel_rfl) tg k n o nx
@[go_sem] theorem C2_123 (tg k n o nx) : aConvert Tryd.prog tg 2 123 (.int k n) ⟨o, nx⟩ = some (.int .u32 (IntKind.wrap .u32 n), ⟨o, nx⟩) := cv_int (td := .int .i64) (by kernel_rfl) (by kernel_rfl) tg k n o nx
@[go_sem] theorem C3_2 (tg k n o nx) : aConvert Tryd.prog tg 3 2 (.int k n) ⟨o, nx⟩ = some (.int .i64 (IntKind.wrap .i64 n), ⟨o, nx⟩) := cv_int (td := .int .i64) (by kernel_rfl) (by kernel_rfl) tg k n o nx
@[go_sem] theorem C3_5 (tg k n o nx) : aConvert Tryd.prog tg 3 5 (.int k n) ⟨o, nx⟩ = some (.int .u8 (IntKind.wrap .u8 n), ⟨o, nx⟩) := cv_int (td := .int .i64) (by kernel_rfl) (by kernel_rfl) tg k n o nx
@[go_sem] theorem C3_44 (tg k n o nx) : aConvert Tryd.prog tg 3 44 (.int k n) ⟨o, nx⟩ = some (.int .i64 (IntKind.wrap .i64 n), ⟨o, nx⟩) := cv_int (td := .int .i64) (by kernel_rfl) (by kernel_rfl) tg k n o nx
@[go_sem] theorem C3_64 (tg k n o nx) : aConvert Tryd.prog tg 3 64 (.int k n) ⟨o, nx⟩ = some (.int .u64 (IntKind.wrap .u64 n), ⟨o, nx⟩) := cv_int (td := .int .i64) (by kernel_rfl) (by kernel_rfl) tg k n o nx
@[go_sem] theorem C3_114 (tg k n o nx) : aConvert Tryd.prog tg 3 114 (.int k n) ⟨o, nx⟩ = some (.int .u64 (IntKind.wrap .u64 n), ⟨o, nx⟩) := cv_int (td := .int .i64) (by kernel_rfl) (by kernel_rfl) tg k n o nx
@[go_sem] theorem C3_123 (tg k n o nx) : aConvert Tryd.prog tg 3 123 (.int k n) ⟨o, nx⟩ = some (.int .u32 (IntKind.wrap .u32 n), ⟨o, nx⟩) := cv_int (td := .int .i64) (by kernel_rfl) (by kernel_rfl) tg k n o nx
@[go_sem] theorem C5_2 (tg k n o nx) : aConvert Tryd.prog tg 5 2 (.int k n) ⟨o, nx⟩ = some (.int .i64 (IntKind.wrap .i64 n), ⟨o, nx⟩) := cv_int (td := .int .u8) (by kernel_rfl) (by kernel_rfl) tg k n o nx
@[go_sem] theorem C5_3 (tg k n o nx) : aConvert Tryd.prog tg 5 3 (.int k n) ⟨o, nx⟩ = some (.int .i64 (IntKind.wrap .i64 n), ⟨o, nx⟩) := cv_int (td := .int .u8) (by kernel_rfl) (by kernel_rfl) tg k n o nx
@[go_sem] theorem C5_44 (tg k n o nx) : aConvert Tryd.prog tg 5 44 (.int k n) ⟨o, nx⟩ = some (.int .i64 (IntKind.wrap .i64 n), ⟨o, nx⟩) := cv_int (td := .int .u8) (by kernel_rfl) (by kernel_rfl) tg k n o nx
@[go_sem] theorem C5_64 (tg k n o nx) : aConvert Tryd.prog tg 5 64 (.int k n) ⟨o, nx⟩ = some (.int .u64 (IntKind.wrap .u64 n), ⟨o, nx⟩) := cv_int (td := .int .u8) (by kernel_rfl) (by kernel_rfl) tg k n o nx
@[go_sem] theorem C5_114 (tg k n o nx) : aConvert Tryd.prog tg 5 114 (.int k n) ⟨o, nx⟩ = some (.int .u64 (IntKind.wrap .u64 n), ⟨o, nx⟩) := cv_int (td := .int .u8) (by kernel_rfl) (by kernel_rfl) tg k n o nx
@[go_sem] theorem C5_123 (tg k n o nx) : aConvert Tryd.prog tg 5 123 (.int k n) ⟨o, nx⟩ = some (.int .u32 (IntKind.wrap .u32 n), ⟨o, nx⟩) := cv_int (td := .int .u8) (by kernel_rfl) (by kernel_rfl) tg k n o nx
@[go_sem] theorem C44_2 (tg k n o nx) : aConvert Tryd.prog tg 44 2 (.int k n) ⟨o, nx⟩ = some (.int .i64 (IntKind.wrap .i64 n), ⟨o, nx⟩) := cv_int (td := .int .i64) (by kernel_rfl) (by kernel_rfl) tg k n o nx
@[go_sem] theorem C44_3 (tg k n o nx) : aConvert Tryd.prog tg 44 3 (.int k n) ⟨o, nx⟩ = some (.int .i64 (IntKind.wrap .i64 n), ⟨o, nx⟩) := cv_int (td := .int .i64) (by kernel_rfl) (by kernel_rfl) tg k n o nx
@[go_sem] theorem C44_5 (tg k n o nx) : aConvert Tryd.prog tg 44 5 (.int k n) ⟨o, nx⟩ = some (.int .u8 (IntKind.wrap .u8 n), ⟨o, nx⟩) := cv_int (td := .int .i64) (by kernel_rfl) (by kernel_rfl) tg k n o nx
@[go_sem] theorem C44_64 (tg k n o nx) : aConvert Tryd.prog tg 44 64 (.int k n) ⟨o, nx⟩ = some (.int .u64 (IntKind.wrap .u64 n), ⟨o, nx⟩) := cv_int (td := .int .i64) (by kernel_rfl) (by kernel_rfl) tg k n o nx
@[go_sem] theorem C44_114 (tg k n o nx) : aConvert Tryd.prog tg 44 114 (.int k n) ⟨o, nx⟩ = some (.int .u64 (IntKind.wrap .u64 n), ⟨o, nx⟩) := cv_int (td := .int .i64) (by kernel_rfl) (by kernel_rfl) tg k n o nx
@[go_sem] theorem C44_123 (tg k n o nx) : aConvert Tryd.prog tg 44 123 (.int k n) ⟨o, nx⟩ = some (.int .u32 (IntKind.wrap .u32 n), ⟨o, nx⟩) := cv_int (td := .int .i64) (by kernel_rfl) (by kernel_rfl) tg k n o nx
@[go_sem] theorem C64_2 (tg k n o nx) : aConvert Tryd.prog tg 64 2 (.int k n) ⟨o, nx⟩ = some (.int .i64 (IntKind.wrap .i64 n), ⟨o, nx⟩) := cv_int (td := .int .u64) (by kernel_rfl) (by kernel_rfl) tg k n o nx
@[go_sem] theorem C64_3 (tg k n o nx) : aConvert Tryd.prog tg 64 3 (.int k n) ⟨o, nx⟩ = some (.int .i64 (IntKind.wrap .i64 n), ⟨o, nx⟩) := cv_int (td := .int .u64) (by kernel_rfl) (by kernel_rfl) tg k n o nx
@[go_sem] theorem C64_5 (tg k n o nx) : aConvert Tryd.prog tg 64 5 (.int k n) ⟨o, nx⟩ = some (.int .u8 (IntKind.wrap .u8 n), ⟨o, nx⟩) := cv_int (td := .int .u64) (by kernel_rfl) (by kernel_rfl) tg k n o nx
@[go_sem] theorem C64_44 (tg k n o nx) : aConvert Tryd.prog tg 64 44 (.int k n) ⟨o, nx⟩ = some (.int .i64 (IntKind.wrap .i64 n), ⟨o, nx⟩) := cv_int (td := .int .u64) (by kernel_rfl) (by kernel_rfl) tg k n o nx
@[go_sem] theorem C64_114 (tg k n o nx) : aConvert Tryd.prog tg 64 114 (.int k n) ⟨o, nx⟩ = some (.int .u64 (IntKind.wrap .u64 n), ⟨o, nx⟩) := cv_int (td := .int .u64) (by kernel_rfl) (by kernel_rfl) tg k n o nx
@[go_sem] theorem C64_123 (tg k n o nx) : aConvert Tryd.prog tg 64 123 (.int k n) ⟨o, nx⟩ = some (.int .u32 (IntKind.wrap .u32 n), ⟨o, nx⟩) := cv_int (td := .int .u64) (by kernel_rfl) (by kernel_rfl) tg k n o nx
@[go_sem] theorem C114_2 (tg k n o nx) : aConvert Tryd.prog tg 114 2 (.int k n) ⟨o, nx⟩ = some (.int .i64 (IntKind.wrap .i64 n), ⟨o, nx⟩) := cv_int (td := .int .u64) (by kernel_rfl) (by kernel_rfl) tg k n o nx
@[go_sem] theorem C114_3 (tg k n o nx) : aConvert Tryd.prog tg 114 3 (.int k n) ⟨o, nx⟩ = some (.int .i64 (IntKind.wrap .i64 n), ⟨o, nx⟩) := cv_int (td := .int .u64) (by kernel_rfl) (by kernel_rfl) tg k n o nx
@[go_sem] theorem C114_5 (tg k n o nx) : aConvert Tryd.prog tg 114 5 (.int k n) ⟨o, nx⟩ = some (.int .u8 (IntKind.wrap .u8 n), ⟨o, nx⟩) := cv_int (td := .int .u64) (by kernel_rfl) (by kernel_rfl) tg k n o nx
@[go_sem] theorem C114_44 (tg k n o nx) : aConvert Tryd.prog tg 114 44 (.int k n) ⟨o, nx⟩ = some (.int .i64 (IntKind.wrap .i64 n), ⟨o, nx⟩) := cv_int (td := .int .u64) (by kernel_rfl) (by kernel_rfl) tg k n o nx
@[go_sem] theorem C114_64 (tg k n o nx) : aConvert Tryd.prog tg 114 64 (.int k n) ⟨o, nx⟩ = some (.int .u64 (IntKind.wrap .u64 n), ⟨o, nx⟩) := cv_int (td := .int .u64) (by kernel_rfl) (by kernel_rfl) tg k n o nx
@[go_sem] theorem C114_123 (tg k n o nx) : aConvert Tryd.prog tg 114 123 (.int k n) ⟨o, nx⟩ = some (.int .u32 (IntKind.wrap .u32 n), ⟨o, nx⟩) := cv_int (td := .int .u64) (by kernel_rfl) (by kernel_rfl) tg k n o nx
@[go_sem] theorem C123_2 (tg k n o nx) : aConvert Tryd.prog tg 123 2 (.int k n) ⟨o, nx⟩ = some (.int .i64 (IntKind.wrap .i64 n), ⟨o, nx⟩) := cv_int (td := .int .u32) (by kernel_rfl) (by kernel_rfl) tg k n o nx
@[go_sem] theorem C123_3 (tg k n o nx) : aConvert Tryd.prog tg 123 3 (.int k n) ⟨o, nx⟩ = some (.int .i64 (IntKind.wrap .i64 n), ⟨o, nx⟩) := cv_int (td := .int .u32) (by kernel_rfl) (by kernel_rfl) tg k n o nx
@[go_sem] theorem C123_5 (tg k n o nx) : aConvert Tryd.prog tg 123 5 (.int k n) ⟨o, nx⟩ = some (.int .u8 (IntKind.wrap .u8 n), ⟨o, nx⟩) := cv_int (td := .int .u32) (by kernel_rfl) (by kernel_rfl) tg k n o nx
@[go_sem] theorem C123_44 (tg k n o nx) : aConvert Tryd.prog tg 123 44 (.int k n) ⟨o, nx⟩ = some (.int .i64 (IntKind.wrap .i64 n), ⟨o, nx⟩) := cv_int (td := .int .u32) (by kernel_rfl) (by kernel_rfl) tg k n o nx
@[go_sem] theorem C123_64 (tg k n o nx) : aConvert Tryd.prog tg 123 64 (.int k n) ⟨o, nx⟩ = some (.int .u64 (IntKind.wrap .u64 n), ⟨o, nx⟩) := cv_int (td := .int .u32) (by kernel_rfl) (by kernel_rfl) tg k n o nx
@[go_sem] theorem C123_114 (tg k n o nx) : aConvert Tryd.prog tg 123 114 (.int k n) ⟨o, nx⟩ = some (.int .u64 (IntKind.wrap .u64 n), ⟨o, nx⟩) := cv_int (td := .int .u32) (by kernel_rfl) (by kernel_rfl) tg k n o nx
/-- How functions are called: on data, with a number or a truth value back; on data, with data back; on the caller's memory. -/
def md0 (f : FuncId) : Mode := if f ∈ [34, 27, 42, 52, 33, 31, 30, 12, 17, 13, 15, 19, 21, 16, 20, 22, 26, 32, 47, 60, 63, 64, 65, 38, 41, 51] then .ext true else if f ∈ [23, 28, 43, 53, 18, 29, 36, 48, 49, 45, 46, 57, 58, 59, 39, 40, 50, 14, 24, 25] then .ext false else if f ∈ [] then .raw true else .raw false
@[go_sem] theorem M34 : md0 34 = .ext true := rfl
@[go_sem] theorem M23 : md0 23 = .ext false := rfl
@[go_sem] theorem M27 : md0 27 = .ext true := rfl
@[go_sem] theorem M28 : md0 28 = .ext false := rfl
@[go_sem] theorem M42 : md0 42 = .ext true := rfl
@[go_sem] theorem M52 : md0 52 = .ext true := rfl
@[go_sem] theorem M43 : md0 43 = .ext false := rfl
@[go_sem] theorem M53 : md0 53 = .ext false := rfl
@[go_sem] theorem M18 : md0 18 = .ext false := rfl
@[go_sem] theorem M33 : md0 33 = .ext true := rfl
@[go_sem] theorem M29 : md0 29 = .ext false := rfl
@[go_sem] theorem M31 : md0 31 = .ext true := rfl
@[go_sem] theorem M36 : md0 36 = .ext false := rfl
@[go_sem] theorem M48 : md0 48 = .ext false := rfl
@[go_sem] theorem M49 : md0 49 = .ext false := rfl
@[go_sem] theorem M30 : md0 30 = .ext true := rfl
@[go_sem] theorem M45 : md0 45 = .ext false := rfl
@[go_sem] theorem M46 : md0 46 = .ext false := rfl
@[go_sem] theorem M57 : md0 57 = .ext false := rfl
@[go_sem] theorem M58 : md0 58 = .ext false := rfl
@[go_sem] theorem M59 : md0 59 = .ext false := rfl
@[go_sem] theorem M39 : md0 39 = .ext false := rfl
@[go_sem] theorem M40 : md0 40 = .ext false := rfl
@[go_sem] theorem M50 : md0 50 = .ext false := rfl
@[go_sem] theorem M12 : md0 12 = .ext true := rfl
@[go_sem] theorem M17 : md0 17 = .ext true := rfl
@[go_sem] theorem M13 : md0 13 = .ext true := rfl
@[go_sem] theorem M14 : md0 14 = .ext false := rfl
@[go_sem] theorem M15 : md0 15 = .ext true := rfl
@[go_sem] theorem M19 : md0 19 = .ext true := rfl
@[go_sem] theorem M21 : md0 21 = .ext true := rfl
@[go_sem] theorem M16 : md0 16 = .ext true := rfl
@[go_sem] theorem M20 : md0 20 = .ext true := rfl
@[go_sem] theorem M22 : md0 22 = .ext true := rfl
@[go_sem] theorem M26 : md0 26 = .ext true := rfl
@[go_sem] theorem M32 : md0 32 = .ext true := rfl
@[go_sem] theorem M44 : md0 44 = .raw false := rfl
@[go_sem] theorem M54 : md0 54 = .raw false := rfl
@[go_sem] theorem M55 : md0 55 = .raw false := rfl
@[go_sem] theorem M56 : md0 56 = .raw false := rfl
@[go_sem] theorem M61 : md0 61 = .raw false := rfl
@[go_sem] theorem M62 : md0 62 = .raw false := rfl
@[go_sem] theorem M24 : md0 24 = .ext false := rfl
@[go_sem] theorem M25 : md0 25 = .ext false := rfl
@[go_sem] theorem M47 : md0 47 = .ext true := rfl
@[go_sem] theorem M60 : md0 60 = .ext true := rfl
@[go_sem] theorem M63 : md0 63 = .ext true := rfl
@[go_sem] theorem M64 : md0 64 = .ext true := rfl
@[go_sem] theorem M65 : md0 65 = .ext true := rfl
@[go_sem] theorem M35 : md0 35 = .raw false := rfl
@[go_sem] theorem M37 : md0 37 = .raw false := rfl
@[go_sem] theorem M38 : md0 38 = .ext true := rfl
@[go_sem] theorem M41 : md0 41 = .ext true := rfl
@[go_sem] theorem M51 : md0 51 = .ext true := rfl
end Go.Proofs.YtbapebepmbikhaaDoor.A
/- within: the remainder. -/
namespace Go.Proofs.YtbapebepmbikhaaDoor.A
open Go
set_option maxRecDepth 20000
def RW (args : List AV) (r : AV) : Prop := ∃ a n : Int, 0 < n ∧ n ≤ 1000000 ∧ args = [.int .i64 a, .int .i64 n] ∧ r = .int .i64 (a % n)
theorem RW_fn : Fun1 RW := by
  rintro args r r' ⟨a, n, _, _, rfl, rfl⟩ ⟨a', n', _, _, h, rfl⟩
  simp only [List.cons.injEq, AV.int.injEq, true_and, and_true] at h
  rw [h.1, h.2]
theorem rw_eq {a n : Int} (h1 : 0 < n) (h2 : n ≤ 1000000) : tRel RW [.int .i64 a, .int .i64 n] = some (.int .i64 (a % n)) := tRel_eq RW_fn ⟨a, n, h1, h2, rfl, rfl⟩
theorem mod_of (a n : Int) (h : 0 < n) : a % n = if a.tmod n < 0 then a.tmod n + n else a.tmod n := by
  have hn : ¬ n = 0 := by omega
  have e1 := Int.emod_lt_of_pos a h
  have e2 := Int.emod_nonneg a hn
  rw [Int.tmod_eq_emod]
  have : (n.natAbs : Int) = n := by omega
  split
  · split <;> omega
  · rename_i hc
    simp only [not_or] at hc
    have h0 : a % n ≠ 0 := fun e => hc.2 (Int.dvd_of_emod_eq_zero e)
    split <;> omega
theorem tmod_in (a n : Int) (h : 0 < n) : -n < a.tmod n ∧ a.tmod n < n := by
  have hn : ¬ n = 0 := by omega
  rw [Int.tmod_eq_emod]
  have := Int.emod_lt_of_pos a h
  have := Int.emod_nonneg a hn
  constructor <;> split <;> omega
theorem lookW0 (X) : lookedAt (EX md0 X) (fun _ => none) 2 Tryd.f34 = true := by kernel_rfl
theorem within0_ok (args r) (h : RW args r) : Ok Tryd.prog 34 args r := by
  obtain ⟨a, n, h1, h2, rfl, rfl⟩ := h
  refine ok_of_WP (E := EX md0 (fun _ _ => none)) (cr := noR) (tab_nil _) (noR_ok _) mixed (k := 0) Tryd.func34 (lookW0 _) rfl ?_
  rw [mod_of a n h1]
  obtain ⟨h3, h4⟩ := tmod_in a n h1
  simp only [Tryd.f34, Option.getD_some]
  by_cases hc : a.tmod n < 0
  · rw [if_pos hc]
    simp (disch := omega) only [go_sem, ↓IntWalk.iteOmega, IntWalk.toNatUp, Nat.reduceEqDiff, Nat.reduceAdd, Nat.reduceMul, Nat.reduceSub, Nat.reduceLT, Nat.reduceLeDiff, Int.reduceToNat, Int.reduceLT, Int.reduceLE, Int.reduceEq, Int.reduceAdd, Int.reduceSub, Int.reduceMul, Int.toNat_natCast, reduceCtorEq, decide_true, decide_false, IntWalk.i64_in, IntWalk.u64_in, IntWalk.u8_in, hc]
  · rw [if_neg hc]
    simp (disch := omega) only [go_sem, ↓IntWalk.iteOmega, IntWalk.toNatUp, Nat.reduceEqDiff, Nat.reduceAdd, Nat.reduceMul, Nat.reduceSub, Nat.reduceLT, Nat.reduceLeDiff, Int.reduceToNat, Int.reduceLT, Int.reduceLE, Int.reduceEq, Int.reduceAdd, Int.reduceSub, Int.reduceMul, Int.toNat_natCast, reduceCtorEq, decide_true, decide_false, IntWalk.i64_in, IntWalk.u64_in, IntWalk.u8_in, hc]
theorem lookW1 (X) : lookedAt (EX md0 X) (fun _ => none) 2 Tryd.f33 = true := by kernel_rfl
theorem within1_ok (args r) (h : RW args r) : Ok Tryd.prog 33 args r := by
  obtain ⟨a, n, h1, h2, rfl, rfl⟩ := h
  refine ok_of_WP (E := EX md0 (fun _ _ => none)) (cr := noR) (tab_nil _) (noR_ok _) mixed (k := 0) Tryd.func33 (lookW1 _) rfl ?_
  rw [mod_of a n h1]
  obtain ⟨h3, h4⟩ := tmod_in a n h1
  simp only [Tryd.f33, Option.getD_some]
  by_cases hc : a.tmod n < 0
  · rw [if_pos hc]
    simp (disch := omega) only [go_sem, ↓IntWalk.iteOmega, IntWalk.toNatUp, Nat.reduceEqDiff, Nat.reduceAdd, Nat.reduceMul, Nat.reduceSub, Nat.reduceLT, Nat.reduceLeDiff, Int.reduceToNat, Int.reduceLT, Int.reduceLE, Int.reduceEq, Int.reduceAdd, Int.reduceSub, Int.reduceMul, Int.toNat_natCast, reduceCtorEq, decide_true, decide_false, IntWalk.i64_in, IntWalk.u64_in, IntWalk.u8_in, hc]
  · rw [if_neg hc]
    simp (disch := omega) only [go_sem, ↓IntWalk.iteOmega, IntWalk.toNatUp, Nat.reduceEqDiff, Nat.reduceAdd, Nat.reduceMul, Nat.reduceSub, Nat.reduceLT, Nat.reduceLeDiff, Int.reduceToNat, Int.reduceLT, Int.reduceLE, Int.reduceEq, Int.reduceAdd, Int.reduceSub, Int.reduceMul, Int.toNat_natCast, reduceCtorEq, decide_true, decide_false, IntWalk.i64_in, IntWalk.u64_in, IntWalk.u8_in, hc]
theorem lookW2 (X) : lookedAt (EX md0 X) (fun _ => none) 2 Tryd.f52 = true := by kernel_rfl
theorem within2_ok (args r) (h : RW args r) : Ok Tryd.prog 52 args r := by
  obtain ⟨a, n, h1, h2, rfl, rfl⟩ := h
  refine ok_of_WP (E := EX md0 (fun _ _ => none)) (cr := noR) (tab_nil _) (noR_ok _) mixed (k := 0) Tryd.func52 (lookW2 _) rfl ?_
  rw [mod_of a n h1]
  obtain ⟨h3, h4⟩ := tmod_in a n h1
  simp only [Tryd.f52, Option.getD_some]
  by_cases hc : a.tmod n < 0
  · rw [if_pos hc]
    simp (disch := omega) only [go_sem, ↓IntWalk.iteOmega, IntWalk.toNatUp, Nat.reduceEqDiff, Nat.reduceAdd, Nat.reduceMul, Nat.reduceSub, Nat.reduceLT, Nat.reduceLeDiff, Int.reduceToNat, Int.reduceLT, Int.reduceLE, Int.reduceEq, Int.reduceAdd, Int.reduceSub, Int.reduceMul, Int.toNat_natCast, reduceCtorEq, decide_true, decide_false, IntWalk.i64_in, IntWalk.u64_in, IntWalk.u8_in, hc]
  · rw [if_neg hc]
    simp (disch := omega) only [go_sem, ↓IntWalk.iteOmega, IntWalk.toNatUp, Nat.reduceEqDiff, Nat.reduceAdd, Nat.reduceMul, Nat.reduceSub, Nat.reduceLT, Nat.reduceLeDiff, Int.reduceToNat, Int.reduceLT, Int.reduceLE, Int.reduceEq, Int.reduceAdd, Int.reduceSub, Int.reduceMul, Int.toNat_natCast, reduceCtorEq, decide_true, decide_false, IntWalk.i64_in, IntWalk.u64_in, IntWalk.u8_in, hc]
theorem lookW3 (X) : lookedAt (EX md0 X) (fun _ => none) 2 Tryd.f17 = true := by kernel_rfl
theorem within3_ok (args r) (h : RW args r) : Ok Tryd.prog 17 args r := by
  obtain ⟨a, n, h1, h2, rfl, rfl⟩ := h
  refine ok_of_WP (E := EX md0 (fun _ _ => none)) (cr := noR) (tab_nil _) (noR_ok _) mixed (k := 0) Tryd.func17 (lookW3 _) rfl ?_
  rw [mod_of a n h1]
  obtain ⟨h3, h4⟩ := tmod_in a n h1
  simp only [Tryd.f17, Option.getD_some]
  by_cases hc : a.tmod n < 0
  · rw [if_pos hc]
    simp (disch := omega) only [go_sem, ↓IntWalk.iteOmega, IntWalk.toNatUp, Nat.reduceEqDiff, Nat.reduceAdd, Nat.reduceMul, Nat.reduceSub, Nat.reduceLT, Nat.reduceLeDiff, Int.reduceToNat, Int.reduceLT, Int.reduceLE, Int.reduceEq, Int.reduceAdd, Int.reduceSub, Int.reduceMul, Int.toNat_natCast, reduceCtorEq, decide_true, decide_false, IntWalk.i64_in, IntWalk.u64_in, IntWalk.u8_in, hc]
  · rw [if_neg hc]
    simp (disch := omega) only [go_sem, ↓IntWalk.iteOmega, IntWalk.toNatUp, Nat.reduceEqDiff, Nat.reduceAdd, Nat.reduceMul, Nat.reduceSub, Nat.reduceLT, Nat.reduceLeDiff, Int.reduceToNat, Int.reduceLT, Int.reduceLE, Int.reduceEq, Int.reduceAdd, Int.reduceSub, Int.reduceMul, Int.toNat_natCast, reduceCtorEq, decide_true, decide_false, IntWalk.i64_in, IntWalk.u64_in, IntWalk.u8_in, hc]
end Go.Proofs.YtbapebepmbikhaaDoor.A
