/- Facts on the types' table, on how functions are called. -/
import Derived.Test.YtcaemgpificohaaMLOwn1
import Derived.Test.YtcaemgpificohaaMLOwn2
import Derived.Test.YtcaemgpificohaaMLOwn3
import Derived.Test.YtcaemgpificohaaMLOwn4
set_option linter.unusedVariables false
set_option linter.unusedSimpArgs false
set_option linter.unnecessarySimpa false
namespace Go.Proofs.Ytcaemgpificohaa.A
open Go
noncomputable def EX (md : FuncId → Mode) (X : FuncId → List AV → Option AV) : Env := ⟨Try.prog, md, X⟩
@[go_sem] theorem EX_P (md X) : (EX md X).P = Try.prog := rfl
@[go_sem] theorem EX_m (md X g) : (EX md X).mode g = md g := rfl
@[go_sem] theorem EX_x (md X g as_) : (EX md X).ext g as_ = X g as_ := rfl
@[go_sem] theorem T2s : tSize Try.prog 2 = some 1 := by kernel_rfl
@[go_sem] theorem T2a : tAgg Try.prog 2 = some false := by kernel_rfl
@[go_sem] theorem T2z : tZero Try.prog 2 = some [AV.int .i64 0] := by kernel_rfl
@[go_sem] theorem T2u : Try.prog.underlying 2 = some (.int .i64) := by kernel_rfl
@[go_sem] theorem T3s : tSize Try.prog 3 = some 1 := by kernel_rfl
@[go_sem] theorem T3a : tAgg Try.prog 3 = some false := by kernel_rfl
@[go_sem] theorem T3z : tZero Try.prog 3 = some [AV.int .i64 0] := by kernel_rfl
@[go_sem] theorem T3u : Try.prog.underlying 3 = some (.int .i64) := by kernel_rfl
@[go_sem] theorem T4s : tSize Try.prog 4 = some 1 := by kernel_rfl
@[go_sem] theorem T4a : tAgg Try.prog 4 = some false := by kernel_rfl
@[go_sem] theorem T4z : tZero Try.prog 4 = some [AV.bool false] := by kernel_rfl
@[go_sem] theorem T4eq (x y) : aBin Try.prog .eql 4 (.bool x) (.bool y) = some (.bool (x == y)) := aBin_beq (by kernel_rfl) x y
@[go_sem] theorem T4ne (x y) : aBin Try.prog .neq 4 (.bool x) (.bool y) = some (.bool (!(x == y))) := aBin_bne (by kernel_rfl) x y
@[go_sem] theorem T5s : tSize Try.prog 5 = some 1 := by kernel_rfl
@[go_sem] theorem T5a : tAgg Try.prog 5 = some false := by kernel_rfl
@[go_sem] theorem T5z : tZero Try.prog 5 = some [AV.int .u8 0] := by kernel_rfl
@[go_sem] theorem T5u : Try.prog.underlying 5 = some (.int .u8) := by kernel_rfl
@[go_sem] theorem T6s : tSize Try.prog 6 = some 1 := by kernel_rfl
@[go_sem] theorem T6a : tAgg Try.prog 6 = some false := by kernel_rfl
@[go_sem] theorem T6z : tZero Try.prog 6 = some [AV.int .u8 0] := by kernel_rfl
@[go_sem] theorem T6u : Try.prog.underlying 6 = some (.int .u8) := by kernel_rfl
@[go_sem] theorem T7s : tSize Try.prog 7 = some 4 := by kernel_rfl
@[go_sem] theorem T7a : tAgg Try.prog 7 = some true := by kernel_rfl
@[go_sem] theorem T7z : tZero Try.prog 7 = some [AV.int .i64 0, AV.int .i64 0, AV.bool false, AV.int .u8 0] := by kernel_rfl
@[go_sem] theorem T7f0p (k g off) : fieldAddrA Try.prog 7 0 (.ptr k g off) = some (.ptr k g (off + 0)) := fa_ptr (s := 0) (ft := 2) (by kernel_rfl) (by kernel_rfl) k g off
@[go_sem] theorem T7f0q (cs) : fieldAddrA Try.prog 7 0 (.fptr cs) = some (.fptr (cs.drop 0)) := fa_fptr (s := 0) (ft := 2) (by kernel_rfl) (by kernel_rfl) cs
@[go_sem] theorem T7f0v (cs) : fieldA Try.prog 7 0 (.agg cs) = takeT Try.prog 2 (cs.drop 0) := fi_agg (by kernel_rfl) cs
@[go_sem] theorem T7f1p (k g off) : fieldAddrA Try.prog 7 1 (.ptr k g off) = some (.ptr k g (off + 1)) := fa_ptr (s := 0) (ft := 3) (by kernel_rfl) (by kernel_rfl) k g off
@[go_sem] theorem T7f1q (cs) : fieldAddrA Try.prog 7 1 (.fptr cs) = some (.fptr (cs.drop 1)) := fa_fptr (s := 0) (ft := 3) (by kernel_rfl) (by kernel_rfl) cs
@[go_sem] theorem T7f1v (cs) : fieldA Try.prog 7 1 (.agg cs) = takeT Try.prog 3 (cs.drop 1) := fi_agg (by kernel_rfl) cs
@[go_sem] theorem T7f2p (k g off) : fieldAddrA Try.prog 7 2 (.ptr k g off) = some (.ptr k g (off + 2)) := fa_ptr (s := 0) (ft := 4) (by kernel_rfl) (by kernel_rfl) k g off
@[go_sem] theorem T7f2q (cs) : fieldAddrA Try.prog 7 2 (.fptr cs) = some (.fptr (cs.drop 2)) := fa_fptr (s := 0) (ft := 4) (by kernel_rfl) (by kernel_rfl) cs
@[go_sem] theorem T7f2v (cs) : fieldA Try.prog 7 2 (.agg cs) = takeT Try.prog 4 (cs.drop 2) := fi_agg (by kernel_rfl) cs
@[go_sem] theorem T7f3p (k g off) : fieldAddrA Try.prog 7 3 (.ptr k g off) = some (.ptr k g (off + 3)) := fa_ptr (s := 0) (ft := 6) (by kernel_rfl) (by kernel_rfl) k g off
@[go_sem] theorem T7f3q (cs) : fieldAddrA Try.prog 7 3 (.fptr cs) = some (.fptr (cs.drop 3)) := fa_fptr (s := 0) (ft := 6) (by kernel_rfl) (by kernel_rfl) cs
@[go_sem] theorem T7f3v (cs) : fieldA Try.prog 7 3 (.agg cs) = takeT Try.prog 6 (cs.drop 3) := fi_agg (by kernel_rfl) cs
@[go_sem] theorem T7bd (xs) : aBuild Try.prog 7 xs = (fillA (fun i => ([(0, 1), (1, 1), (2, 1), (3, 1)] : List (Nat × Nat))[i]?) [AV.int .i64 0, AV.int .i64 0, AV.bool false, AV.int .u8 0] xs).map .agg := by kernel_rfl
@[go_sem] theorem T7lf : eqLeaves Try.prog 7 = some [Leaf.int, Leaf.int, Leaf.bool, Leaf.int] := by kernel_rfl
@[go_sem] theorem T8s : tSize Try.prog 8 = some 4 := by kernel_rfl
@[go_sem] theorem T8a : tAgg Try.prog 8 = some true := by kernel_rfl
@[go_sem] theorem T8z : tZero Try.prog 8 = some [AV.int .i64 0, AV.int .i64 0, AV.bool false, AV.int .u8 0] := by kernel_rfl
@[go_sem] theorem T8f0p (k g off) : fieldAddrA Try.prog 8 0 (.ptr k g off) = some (.ptr k g (off + 0)) := fa_ptr (s := 0) (ft := 2) (by kernel_rfl) (by kernel_rfl) k g off
@[go_sem] theorem T8f0q (cs) : fieldAddrA Try.prog 8 0 (.fptr cs) = some (.fptr (cs.drop 0)) := fa_fptr (s := 0) (ft := 2) (by kernel_rfl) (by kernel_rfl) cs
@[go_sem] theorem T8f0v (cs) : fieldA Try.prog 8 0 (.agg cs) = takeT Try.prog 2 (cs.drop 0) := fi_agg (by kernel_rfl) cs
@[go_sem] theorem T8f1p (k g off) : fieldAddrA Try.prog 8 1 (.ptr k g off) = some (.ptr k g (off + 1)) := fa_ptr (s := 0) (ft := 3) (by kernel_rfl) (by kernel_rfl) k g off
@[go_sem] theorem T8f1q (cs) : fieldAddrA Try.prog 8 1 (.fptr cs) = some (.fptr (cs.drop 1)) := fa_fptr (s := 0) (ft := 3) (by kernel_rfl) (by kernel_rfl) cs
@[go_sem] theorem T8f1v (cs) : fieldA Try.prog 8 1 (.agg cs) = takeT Try.prog 3 (cs.drop 1) := fi_agg (by kernel_rfl) cs
@[go_sem] theorem T8f2p (k g off) : fieldAddrA Try.prog 8 2 (.ptr k g off) = some (.ptr k g (off + 2)) := fa_ptr (s := 0) (ft := 4) (by kernel_rfl) (by kernel_rfl) k g off
@[go_sem] theorem T8f2q (cs) : fieldAddrA Try.prog 8 2 (.fptr cs) = some (.fptr (cs.drop 2)) := fa_fptr (s := 0) (ft := 4) (by kernel_rfl) (by kernel_rfl) cs
@[go_sem] theorem T8f2v (cs) : fieldA Try.prog 8 2 (.agg cs) = takeT Try.prog 4 (cs.drop 2) := fi_agg (by kernel_rfl) cs
@[go_sem] theorem T8f3p (k g off) : fieldAddrA Try.prog 8 3 (.ptr k g off) = some (.ptr k g (off + 3)) := fa_ptr (s := 0) (ft := 6) (by kernel_rfl) (by kernel_rfl) k g off
@[go_sem] theorem T8f3q (cs) : fieldAddrA Try.prog 8 3 (.fptr cs) = some (.fptr (cs.drop 3)) := fa_fptr (s := 0) (ft := 6) (by kernel_rfl) (by kernel_rfl) cs
@[go_sem] theorem T8f3v (cs) : fieldA Try.prog 8 3 (.agg cs) = takeT Try.prog 6 (cs.drop 3) := fi_agg (by kernel_rfl) cs
@[go_sem] theorem T8bd (xs) : aBuild Try.prog 8 xs = (fillA (fun i => ([(0, 1), (1, 1), (2, 1), (3, 1)] : List (Nat × Nat))[i]?) [AV.int .i64 0, AV.int .i64 0, AV.bool false, AV.int .u8 0] xs).map .agg := by kernel_rfl
@[go_sem] theorem T8lf : eqLeaves Try.prog 8 = some [Leaf.int, Leaf.int, Leaf.bool, Leaf.int] := by kernel_rfl
@[go_sem] theorem T9s : tSize Try.prog 9 = some 1 := by kernel_rfl
@[go_sem] theorem T9a : tAgg Try.prog 9 = some false := by kernel_rfl
@[go_sem] theorem T9z : tZero Try.prog 9 = some [AV.str []] := by kernel_rfl
@[go_sem] theorem T9ix (x i) : aIndex Try.prog 9 (.str x) i = if 0 ≤ i then (x[i.toNat]?).map fun b => .int .u8 b.toNat else none := ixv_str (by kernel_rfl) x i
@[go_sem] theorem T9sl (x lo hi) : aSlice Try.prog 9 (.str x) lo hi = if 0 ≤ lo.getD 0 ∧ lo.getD 0 ≤ hi.getD x.length ∧ hi.getD x.length ≤ x.length then some (.str ((x.take (hi.getD x.length).toNat).drop (lo.getD 0).toNat)) else none := sl_str (by kernel_rfl) x lo hi
@[go_sem] theorem T9ln (o x) : aLen Try.prog o 9 (.str x) = some (.int .i64 x.length) := ln_str (by kernel_rfl) o x
@[go_sem] theorem T9u : Try.prog.underlying 9 = some .string := by kernel_rfl
@[go_sem] theorem T10s : tSize Try.prog 10 = some 1 := by kernel_rfl
@[go_sem] theorem T10a : tAgg Try.prog 10 = some false := by kernel_rfl
@[go_sem] theorem T10z : tZero Try.prog 10 = some [AV.str []] := by kernel_rfl
@[go_sem] theorem T10ix (x i) : aIndex Try.prog 10 (.str x) i = if 0 ≤ i then (x[i.toNat]?).map fun b => .int .u8 b.toNat else none := ixv_str (by kernel_rfl) x i
@[go_sem] theorem T10sl (x lo hi) : aSlice Try.prog 10 (.str x) lo hi = if 0 ≤ lo.getD 0 ∧ lo.getD 0 ≤ hi.getD x.length ∧ hi.getD x.length ≤ x.length then some (.str ((x.take (hi.getD x.length).toNat).drop (lo.getD 0).toNat)) else none := sl_str (by kernel_rfl) x lo hi
@[go_sem] theorem T10ln (o x) : aLen Try.prog o 10 (.str x) = some (.int .i64 x.length) := ln_str (by kernel_rfl) o x
@[go_sem] theorem T10u : Try.prog.underlying 10 = some .string := by kernel_rfl
@[go_sem] theorem T11s : tSize Try.prog 11 = some 1 := by kernel_rfl
@[go_sem] theorem T11a : tAgg Try.prog 11 = some false := by kernel_rfl
@[go_sem] theorem T11z : tZero Try.prog 11 = some [AV.str []] := by kernel_rfl
@[go_sem] theorem T11ix (x i) : aIndex Try.prog 11 (.str x) i = if 0 ≤ i then (x[i.toNat]?).map fun b => .int .u8 b.toNat else none := ixv_str (by kernel_rfl) x i
@[go_sem] theorem T11sl (x lo hi) : aSlice Try.prog 11 (.str x) lo hi = if 0 ≤ lo.getD 0 ∧ lo.getD 0 ≤ hi.getD x.length ∧ hi.getD x.length ≤ x.length then some (.str ((x.take (hi.getD x.length).toNat).drop (lo.getD 0).toNat)) else none := sl_str (by kernel_rfl) x lo hi
@[go_sem] theorem T11ln (o x) : aLen Try.prog o 11 (.str x) = some (.int .i64 x.length) := ln_str (by kernel_rfl) o x
@[go_sem] theorem T11u : Try.prog.underlying 11 = some .string := by kernel_rfl
@[go_sem] theorem T12s : tSize Try.prog 12 = some 1 := by kernel_rfl
@[go_sem] theorem T12a : tAgg Try.prog 12 = some false := by kernel_rfl
@[go_sem] theorem T12z : tZero Try.prog 12 = some [AV.int .u64 0] := by kernel_rfl
@[go_sem] theorem T12u : Try.prog.underlying 12 = some (.int .u64) := by kernel_rfl
@[go_sem] theorem T13s : tSize Try.prog 13 = some 2 := by kernel_rfl
@[go_sem] theorem T13a : tAgg Try.prog 13 = some true := by kernel_rfl
@[go_sem] theorem T13z : tZero Try.prog 13 = some [AV.str [], AV.int .u64 0] := by kernel_rfl
@[go_sem] theorem T13f0p (k g off) : fieldAddrA Try.prog 13 0 (.ptr k g off) = some (.ptr k g (off + 0)) := fa_ptr (s := 0) (ft := 9) (by kernel_rfl) (by kernel_rfl) k g off
@[go_sem] theorem T13f0q (cs) : fieldAddrA Try.prog 13 0 (.fptr cs) = some (.fptr (cs.drop 0)) := fa_fptr (s := 0) (ft := 9) (by kernel_rfl) (by kernel_rfl) cs
@[go_sem] theorem T13f0v (cs) : fieldA Try.prog 13 0 (.agg cs) = takeT Try.prog 9 (cs.drop 0) := fi_agg (by kernel_rfl) cs
@[go_sem] theorem T13f1p (k g off) : fieldAddrA Try.prog 13 1 (.ptr k g off) = some (.ptr k g (off + 1)) := fa_ptr (s := 0) (ft := 12) (by kernel_rfl) (by kernel_rfl) k g off
@[go_sem] theorem T13f1q (cs) : fieldAddrA Try.prog 13 1 (.fptr cs) = some (.fptr (cs.drop 1)) := fa_fptr (s := 0) (ft := 12) (by kernel_rfl) (by kernel_rfl) cs
@[go_sem] theorem T13f1v (cs) : fieldA Try.prog 13 1 (.agg cs) = takeT Try.prog 12 (cs.drop 1) := fi_agg (by kernel_rfl) cs
@[go_sem] theorem T13bd (xs) : aBuild Try.prog 13 xs = (fillA (fun i => ([(0, 1), (1, 1)] : List (Nat × Nat))[i]?) [AV.str [], AV.int .u64 0] xs).map .agg := by kernel_rfl
@[go_sem] theorem T14s : tSize Try.prog 14 = some 2 := by kernel_rfl
@[go_sem] theorem T14a : tAgg Try.prog 14 = some true := by kernel_rfl
@[go_sem] theorem T14z : tZero Try.prog 14 = some [AV.str [], AV.int .u64 0] := by kernel_rfl
@[go_sem] theorem T14f0p (k g off) : fieldAddrA Try.prog 14 0 (.ptr k g off) = some (.ptr k g (off + 0)) := fa_ptr (s := 0) (ft := 9) (by kernel_rfl) (by kernel_rfl) k g off
@[go_sem] theorem T14f0q (cs) : fieldAddrA Try.prog 14 0 (.fptr cs) = some (.fptr (cs.drop 0)) := fa_fptr (s := 0) (ft := 9) (by kernel_rfl) (by kernel_rfl) cs
@[go_sem] theorem T14f0v (cs) : fieldA Try.prog 14 0 (.agg cs) = takeT Try.prog 9 (cs.drop 0) := fi_agg (by kernel_rfl) cs
@[go_sem] theorem T14f1p (k g off) : fieldAddrA Try.prog 14 1 (.ptr k g off) = some (.ptr k g (off + 1)) := fa_ptr (s := 0) (ft := 12) (by kernel_rfl) (by kernel_rfl) k g off
@[go_sem] theorem T14f1q (cs) : fieldAddrA Try.prog 14 1 (.fptr cs) = some (.fptr (cs.drop 1)) := fa_fptr (s := 0) (ft := 12) (by kernel_rfl) (by kernel_rfl) cs
@[go_sem] theorem T14f1v (cs) : fieldA Try.prog 14 1 (.agg cs) = takeT Try.prog 12 (cs.drop 1) := fi_agg (by kernel_rfl) cs
@[go_sem] theorem T14bd (xs) : aBuild Try.prog 14 xs = (fillA (fun i => ([(0, 1), (1, 1)] : List (Nat × Nat))[i]?) [AV.str [], AV.int .u64 0] xs).map .agg := by kernel_rfl
@[go_sem] theorem T15s : tSize Try.prog 15 = some 1 := by kernel_rfl
@[go_sem] theorem T15a : tAgg Try.prog 15 = some false := by kernel_rfl
@[go_sem] theorem T16s : tSize Try.prog 16 = some 1 := by kernel_rfl
@[go_sem] theorem T16a : tAgg Try.prog 16 = some false := by kernel_rfl
@[go_sem] theorem T17s : tSize Try.prog 17 = some 1 := by kernel_rfl
@[go_sem] theorem T17a : tAgg Try.prog 17 = some false := by kernel_rfl
@[go_sem] theorem T18s : tSize Try.prog 18 = some 1 := by kernel_rfl
@[go_sem] theorem T18a : tAgg Try.prog 18 = some true := by kernel_rfl
@[go_sem] theorem T18f0p (k g off) : fieldAddrA Try.prog 18 0 (.ptr k g off) = some (.ptr k g (off + 0)) := fa_ptr (s := 0) (ft := 17) (by kernel_rfl) (by kernel_rfl) k g off
@[go_sem] theorem T18f0q (cs) : fieldAddrA Try.prog 18 0 (.fptr cs) = some (.fptr (cs.drop 0)) := fa_fptr (s := 0) (ft := 17) (by kernel_rfl) (by kernel_rfl) cs
@[go_sem] theorem T18f0v (cs) : fieldA Try.prog 18 0 (.agg cs) = takeT Try.prog 17 (cs.drop 0) := fi_agg (by kernel_rfl) cs
@[go_sem] theorem T19s : tSize Try.prog 19 = some 1 := by kernel_rfl
@[go_sem] theorem T19a : tAgg Try.prog 19 = some true := by kernel_rfl
@[go_sem] theorem T19f0p (k g off) : fieldAddrA Try.prog 19 0 (.ptr k g off) = some (.ptr k g (off + 0)) := fa_ptr (s := 0) (ft := 17) (by kernel_rfl) (by kernel_rfl) k g off
@[go_sem] theorem T19f0q (cs) : fieldAddrA Try.prog 19 0 (.fptr cs) = some (.fptr (cs.drop 0)) := fa_fptr (s := 0) (ft := 17) (by kernel_rfl) (by kernel_rfl) cs
@[go_sem] theorem T19f0v (cs) : fieldA Try.prog 19 0 (.agg cs) = takeT Try.prog 17 (cs.drop 0) := fi_agg (by kernel_rfl) cs
@[go_sem] theorem T21s : tSize Try.prog 21 = some 1 := by kernel_rfl
@[go_sem] theorem T21a : tAgg Try.prog 21 = some false := by kernel_rfl
@[go_sem] theorem T21z : tZero Try.prog 21 = some [AV.int .i32 0] := by kernel_rfl
@[go_sem] theorem T21u : Try.prog.underlying 21 = some (.int .i32) := by kernel_rfl
@[go_sem] theorem T22s : tSize Try.prog 22 = some 1 := by kernel_rfl
@[go_sem] theorem T22a : tAgg Try.prog 22 = some false := by kernel_rfl
@[go_sem] theorem T22z : tZero Try.prog 22 = some [AV.nil] := by kernel_rfl
@[go_sem] theorem T22ln0 (o) : aLen Try.prog o 22 .nil = some (.int .i64 0) := ln_nil (e := 68) (by kernel_rfl) o
@[go_sem] theorem T22ln1 (o n cs) : aLen Try.prog o 22 (.sl n cs) = some (.int .i64 n) := ln_sl (e := 68) (by kernel_rfl) o n cs
@[go_sem] theorem T22ln2 (o k g off n) : aLen Try.prog o 22 (.ref k g off n) = some (.int .i64 n) := ln_ref (e := 68) (by kernel_rfl) o k g off n
@[go_sem] theorem T22ix1 (n cs i) : aIndexAddr Try.prog 22 (.sl n cs) i = if 0 ≤ i ∧ i < (n : Int) then some (.fptr (cs.drop (i.toNat * 3))) else none := ixs_sl (s := 3) (by kernel_rfl) n cs i
@[go_sem] theorem T22ix2 (k g off n i) : aIndexAddr Try.prog 22 (.ref k g off n) i = if 0 ≤ i ∧ i < (n : Int) then some (.ptr k g (off + i.toNat * 3)) else none := ixs_ref (s := 3) (by kernel_rfl) k g off n i
@[go_sem] theorem T22sl1 (n cs lo hi) : aSlice Try.prog 22 (.sl n cs) lo hi = if 0 ≤ lo.getD 0 ∧ lo.getD 0 ≤ hi.getD n ∧ hi.getD n ≤ n then some (.sl ((hi.getD n).toNat - (lo.getD 0).toNat) ((cs.take ((hi.getD n).toNat * 3)).drop ((lo.getD 0).toNat * 3))) else none := sl_sl (s := 3) (by kernel_rfl) n cs lo hi
@[go_sem] theorem T22sl2 (k g off n lo hi) : aSlice Try.prog 22 (.ref k g off n) lo hi = if 0 ≤ lo.getD 0 ∧ lo.getD 0 ≤ hi.getD n ∧ hi.getD n ≤ n then some (.ref k g (off + (lo.getD 0).toNat * 3) ((hi.getD n).toNat - (lo.getD 0).toNat)) else none := sl_ref (s := 2) (by kernel_rfl) k g off n lo hi
@[go_sem] theorem T22cp (k g off n x o nx) : aCopy Try.prog 22 (.ref k g off n) x ⟨o, nx⟩ = (srcOf o x).bind fun q => (rowIf (o k) g).bind (copyR k off n 3 q.1 q.2 o nx) := cp_ref (by kernel_rfl) k g off n x o nx
@[go_sem] theorem T22ms (tg l c o nx) : aMakeSlice Try.prog tg 22 l c ⟨o, nx⟩ = if 0 ≤ l ∧ l ≤ c ∧ c * 40 ≤ maxB ∧ c ≤ maxB then some (.ref tg tg 0 l.toNat, ⟨upd o tg (.row ⟨68, 3, tg, false, true, rep [AV.int .i64 0, AV.int .i64 0, AV.nil] l.toNat⟩), nx⟩) else none := ms_eq (e := 68) (s := 2) (b := 40) (z := [AV.int .i64 0, AV.int .i64 0, AV.nil]) (by kernel_rfl) (by kernel_rfl) (by kernel_rfl) (by kernel_rfl) rfl tg l c o nx
@[go_sem] theorem T22bs (tg n ps o nx) : aBuildSlice Try.prog tg 22 n ps ⟨o, nx⟩ = if n * 3 ≤ 16777216 then (fillA (fun i => some (i * 3, 3)) (rep [AV.int .i64 0, AV.int .i64 0, AV.nil] n) ps).map (fun cs => (.ref tg tg 0 n, ⟨upd o tg (.row ⟨68, 3, tg, false, true, cs⟩), nx⟩)) else none := bs_eq (e := 68) (s := 2) (z := [AV.int .i64 0, AV.int .i64 0, AV.nil]) (by kernel_rfl) (by kernel_rfl) (by kernel_rfl) rfl tg n ps o nx
@[go_sem] theorem T22ap (tg x y o nx) : aAppend Try.prog tg 22 22 x y ⟨o, nx⟩ = (srcOf o y).bind fun q => appW tg 68 3 40 x q.1 q.2 o nx := ap_eq (e := 68) (s := 2) (b := 39) (z := [AV.int .i64 0, AV.int .i64 0, AV.nil]) (by kernel_rfl) (by kernel_rfl) (by kernel_rfl) (by kernel_rfl) rfl (by kernel_rfl) tg x y o nx
@[go_sem] theorem T25s : tSize Try.prog 25 = some 1 := by kernel_rfl
@[go_sem] theorem T25a : tAgg Try.prog 25 = some false := by kernel_rfl
@[go_sem] theorem T25z : tZero Try.prog 25 = some [AV.nil] := by kernel_rfl
@[go_sem] theorem T25ln0 (o) : aLen Try.prog o 25 .nil = some (.int .i64 0) := ln_nil (e := 48) (by kernel_rfl) o
@[go_sem] theorem T25ln1 (o n cs) : aLen Try.prog o 25 (.sl n cs) = some (.int .i64 n) := ln_sl (e := 48) (by kernel_rfl) o n cs
@[go_sem] theorem T25ln2 (o k g off n) : aLen Try.prog o 25 (.ref k g off n) = some (.int .i64 n) := ln_ref (e := 48) (by kernel_rfl) o k g off n
@[go_sem] theorem T25ix1 (n cs i) : aIndexAddr Try.prog 25 (.sl n cs) i = if 0 ≤ i ∧ i < (n : Int) then some (.fptr (cs.drop (i.toNat * 3))) else none := ixs_sl (s := 3) (by kernel_rfl) n cs i
@[go_sem] theorem T25ix2 (k g off n i) : aIndexAddr Try.prog 25 (.ref k g off n) i = if 0 ≤ i ∧ i < (n : Int) then some (.ptr k g (off + i.toNat * 3)) else none := ixs_ref (s := 3) (by kernel_rfl) k g off n i
@[go_sem] theorem T25sl1 (n cs lo hi) : aSlice Try.prog 25 (.sl n cs) lo hi = if 0 ≤ lo.getD 0 ∧ lo.getD 0 ≤ hi.getD n ∧ hi.getD n ≤ n then some (.sl ((hi.getD n).toNat - (lo.getD 0).toNat) ((cs.take ((hi.getD n).toNat * 3)).drop ((lo.getD 0).toNat * 3))) else none := sl_sl (s := 3) (by kernel_rfl) n cs lo hi
@[go_sem] theorem T25sl2 (k g off n lo hi) : aSlice Try.prog 25 (.ref k g off n) lo hi = if 0 ≤ lo.getD 0 ∧ lo.getD 0 ≤ hi.getD n ∧ hi.getD n ≤ n then some (.ref k g (off + (lo.getD 0).toNat * 3) ((hi.getD n).toNat - (lo.getD 0).toNat)) else none := sl_ref (s := 2) (by kernel_rfl) k g off n lo hi
@[go_sem] theorem T25cp (k g off n x o nx) : aCopy Try.prog 25 (.ref k g off n) x ⟨o, nx⟩ = (srcOf o x).bind fun q => (rowIf (o k) g).bind (copyR k off n 3 q.1 q.2 o nx) := cp_ref (by kernel_rfl) k g off n x o nx
@[go_sem] theorem T25ms (tg l c o nx) : aMakeSlice Try.prog tg 25 l c ⟨o, nx⟩ = if 0 ≤ l ∧ l ≤ c ∧ c * 24 ≤ maxB ∧ c ≤ maxB then some (.ref tg tg 0 l.toNat, ⟨upd o tg (.row ⟨48, 3, tg, false, true, rep [AV.int .i64 0, AV.int .i64 0, AV.int .i64 0] l.toNat⟩), nx⟩) else none := ms_eq (e := 48) (s := 2) (b := 24) (z := [AV.int .i64 0, AV.int .i64 0, AV.int .i64 0]) (by kernel_rfl) (by kernel_rfl) (by kernel_rfl) (by kernel_rfl) rfl tg l c o nx
@[go_sem] theorem T25bs (tg n ps o nx) : aBuildSlice Try.prog tg 25 n ps ⟨o, nx⟩ = if n * 3 ≤ 16777216 then (fillA (fun i => some (i * 3, 3)) (rep [AV.int .i64 0, AV.int .i64 0, AV.int .i64 0] n) ps).map (fun cs => (.ref tg tg 0 n, ⟨upd o tg (.row ⟨48, 3, tg, false, true, cs⟩), nx⟩)) else none := bs_eq (e := 48) (s := 2) (z := [AV.int .i64 0, AV.int .i64 0, AV.int .i64 0]) (by kernel_rfl) (by kernel_rfl) (by kernel_rfl) rfl tg n ps o nx
@[go_sem] theorem T25ap (tg x y o nx) : aAppend Try.prog tg 25 25 x y ⟨o, nx⟩ = (srcOf o y).bind fun q => appW tg 48 3 24 x q.1 q.2 o nx := ap_eq (e := 48) (s := 2) (b := 23) (z := [AV.int .i64 0, AV.int .i64 0, AV.int .i64 0]) (by kernel_rfl) (by kernel_rfl) (by kernel_rfl) (by kernel_rfl) rfl (by kernel_rfl) tg x y o nx
@[go_sem] theorem T26s : tSize Try.prog 26 = some 1 := by kernel_rfl
@[go_sem] theorem T26a : tAgg Try.prog 26 = some false := by kernel_rfl
@[go_sem] theorem T26z : tZero Try.prog 26 = some [AV.nil] := by kernel_rfl
@[go_sem] theorem T26ln0 (o) : aLen Try.prog o 26 .nil = some (.int .i64 0) := ln_nil (e := 49) (by kernel_rfl) o
@[go_sem] theorem T26ln1 (o n cs) : aLen Try.prog o 26 (.sl n cs) = some (.int .i64 n) := ln_sl (e := 49) (by kernel_rfl) o n cs
@[go_sem] theorem T26ln2 (o k g off n) : aLen Try.prog o 26 (.ref k g off n) = some (.int .i64 n) := ln_ref (e := 49) (by kernel_rfl) o k g off n
@[go_sem] theorem T26ix1 (n cs i) : aIndexAddr Try.prog 26 (.sl n cs) i = if 0 ≤ i ∧ i < (n : Int) then some (.fptr (cs.drop (i.toNat * 2))) else none := ixs_sl (s := 2) (by kernel_rfl) n cs i
@[go_sem] theorem T26ix2 (k g off n i) : aIndexAddr Try.prog 26 (.ref k g off n) i = if 0 ≤ i ∧ i < (n : Int) then some (.ptr k g (off + i.toNat * 2)) else none := ixs_ref (s := 2) (by kernel_rfl) k g off n i
@[go_sem] theorem T26sl1 (n cs lo hi) : aSlice Try.prog 26 (.sl n cs) lo hi = if 0 ≤ lo.getD 0 ∧ lo.getD 0 ≤ hi.getD n ∧ hi.getD n ≤ n then some (.sl ((hi.getD n).toNat - (lo.getD 0).toNat) ((cs.take ((hi.getD n).toNat * 2)).drop ((lo.getD 0).toNat * 2))) else none := sl_sl (s := 2) (by kernel_rfl) n cs lo hi
@[go_sem] theorem T26sl2 (k g off n lo hi) : aSlice Try.prog 26 (.ref k g off n) lo hi = if 0 ≤ lo.getD 0 ∧ lo.getD 0 ≤ hi.getD n ∧ hi.getD n ≤ n then some (.ref k g (off + (lo.getD 0).toNat * 2) ((hi.getD n).toNat - (lo.getD 0).toNat)) else none := sl_ref (s := 1) (by kernel_rfl) k g off n lo hi
@[go_sem] theorem T26cp (k g off n x o nx) : aCopy Try.prog 26 (.ref k g off n) x ⟨o, nx⟩ = (srcOf o x).bind fun q => (rowIf (o k) g).bind (copyR k off n 2 q.1 q.2 o nx) := cp_ref (by kernel_rfl) k g off n x o nx
@[go_sem] theorem T26ms (tg l c o nx) : aMakeSlice Try.prog tg 26 l c ⟨o, nx⟩ = if 0 ≤ l ∧ l ≤ c ∧ c * 16 ≤ maxB ∧ c ≤ maxB then some (.ref tg tg 0 l.toNat, ⟨upd o tg (.row ⟨49, 2, tg, false, true, rep [AV.int .i64 0, AV.int .i64 0] l.toNat⟩), nx⟩) else none := ms_eq (e := 49) (s := 1) (b := 16) (z := [AV.int .i64 0, AV.int .i64 0]) (by kernel_rfl) (by kernel_rfl) (by kernel_rfl) (by kernel_rfl) rfl tg l c o nx
@[go_sem] theorem T26bs (tg n ps o nx) : aBuildSlice Try.prog tg 26 n ps ⟨o, nx⟩ = if n * 2 ≤ 16777216 then (fillA (fun i => some (i * 2, 2)) (rep [AV.int .i64 0, AV.int .i64 0] n) ps).map (fun cs => (.ref tg tg 0 n, ⟨upd o tg (.row ⟨49, 2, tg, false, true, cs⟩), nx⟩)) else none := bs_eq (e := 49) (s := 1) (z := [AV.int .i64 0, AV.int .i64 0]) (by kernel_rfl) (by kernel_rfl) (by kernel_rfl) rfl tg n ps o nx
@[go_sem] theorem T26ap (tg x y o nx) : aAppend Try.prog tg 26 26 x y ⟨o, nx⟩ = (srcOf o y).bind fun q => appW tg 49 2 16 x q.1 q.2 o nx := ap_eq (e := 49) (s := 1) (b := 15) (z := [AV.int .i64 0, AV.int .i64 0]) (by kernel_rfl) (by kernel_rfl) (by kernel_rfl) (by kernel_rfl) rfl (by kernel_rfl) tg x y o nx
@[go_sem] theorem T27s : tSize Try.prog 27 = some 5 := by kernel_rfl
@[go_sem] theorem T27a : tAgg Try.prog 27 = some true := by kernel_rfl
@[go_sem] theorem T27z : tZero Try.prog 27 = some [AV.int .i64 0, AV.int .i64 0, AV.int .i64 0, AV.nil, AV.nil] := by kernel_rfl
@[go_sem] theorem T27f0p (k g off) : fieldAddrA Try.prog 27 0 (.ptr k g off) = some (.ptr k g (off + 0)) := fa_ptr (s := 0) (ft := 3) (by kernel_rfl) (by kernel_rfl) k g off
@[go_sem] theorem T27f0q (cs) : fieldAddrA Try.prog 27 0 (.fptr cs) = some (.fptr (cs.drop 0)) := fa_fptr (s := 0) (ft := 3) (by kernel_rfl) (by kernel_rfl) cs
@[go_sem] theorem T27f0v (cs) : fieldA Try.prog 27 0 (.agg cs) = takeT Try.prog 3 (cs.drop 0) := fi_agg (by kernel_rfl) cs
@[go_sem] theorem T27f1p (k g off) : fieldAddrA Try.prog 27 1 (.ptr k g off) = some (.ptr k g (off + 1)) := fa_ptr (s := 0) (ft := 3) (by kernel_rfl) (by kernel_rfl) k g off
@[go_sem] theorem T27f1q (cs) : fieldAddrA Try.prog 27 1 (.fptr cs) = some (.fptr (cs.drop 1)) := fa_fptr (s := 0) (ft := 3) (by kernel_rfl) (by kernel_rfl) cs
@[go_sem] theorem T27f1v (cs) : fieldA Try.prog 27 1 (.agg cs) = takeT Try.prog 3 (cs.drop 1) := fi_agg (by kernel_rfl) cs
@[go_sem] theorem T27f2p (k g off) : fieldAddrA Try.prog 27 2 (.ptr k g off) = some (.ptr k g (off + 2)) := fa_ptr (s := 0) (ft := 3) (by kernel_rfl) (by kernel_rfl) k g off
@[go_sem] theorem T27f2q (cs) : fieldAddrA Try.prog 27 2 (.fptr cs) = some (.fptr (cs.drop 2)) := fa_fptr (s := 0) (ft := 3) (by kernel_rfl) (by kernel_rfl) cs
@[go_sem] theorem T27f2v (cs) : fieldA Try.prog 27 2 (.agg cs) = takeT Try.prog 3 (cs.drop 2) := fi_agg (by kernel_rfl) cs
@[go_sem] theorem T27f3p (k g off) : fieldAddrA Try.prog 27 3 (.ptr k g off) = some (.ptr k g (off + 3)) := fa_ptr (s := 0) (ft := 25) (by kernel_rfl) (by kernel_rfl) k g off
@[go_sem] theorem T27f3q (cs) : fieldAddrA Try.prog 27 3 (.fptr cs) = some (.fptr (cs.drop 3)) := fa_fptr (s := 0) (ft := 25) (by kernel_rfl) (by kernel_rfl) cs
@[go_sem] theorem T27f3v (cs) : fieldA Try.prog 27 3 (.agg cs) = takeT Try.prog 25 (cs.drop 3) := fi_agg (by kernel_rfl) cs
@[go_sem] theorem T27f4p (k g off) : fieldAddrA Try.prog 27 4 (.ptr k g off) = some (.ptr k g (off + 4)) := fa_ptr (s := 0) (ft := 26) (by kernel_rfl) (by kernel_rfl) k g off
@[go_sem] theorem T27f4q (cs) : fieldAddrA Try.prog 27 4 (.fptr cs) = some (.fptr (cs.drop 4)) := fa_fptr (s := 0) (ft := 26) (by kernel_rfl) (by kernel_rfl) cs
@[go_sem] theorem T27f4v (cs) : fieldA Try.prog 27 4 (.agg cs) = takeT Try.prog 26 (cs.drop 4) := fi_agg (by kernel_rfl) cs
@[go_sem] theorem T27bd (xs) : aBuild Try.prog 27 xs = (fillA (fun i => ([(0, 1), (1, 1), (2, 1), (3, 1), (4, 1)] : List (Nat × Nat))[i]?) [AV.int .i64 0, AV.int .i64 0, AV.int .i64 0, AV.nil, AV.nil] xs).map .agg := by kernel_rfl
@[go_sem] theorem T28s : tSize Try.prog 28 = some 5 := by kernel_rfl
@[go_sem] theorem T28a : tAgg Try.prog 28 = some true := by kernel_rfl
@[go_sem] theorem T28z : tZero Try.prog 28 = some [AV.int .i64 0, AV.int .i64 0, AV.int .i64 0, AV.nil, AV.nil] := by kernel_rfl
@[go_sem] theorem T28f0p (k g off) : fieldAddrA Try.prog 28 0 (.ptr k g off) = some (.ptr k g (off + 0)) := fa_ptr (s := 0) (ft := 3) (by kernel_rfl) (by kernel_rfl) k g off
@[go_sem] theorem T28f0q (cs) : fieldAddrA Try.prog 28 0 (.fptr cs) = some (.fptr (cs.drop 0)) := fa_fptr (s := 0) (ft := 3) (by kernel_rfl) (by kernel_rfl) cs
@[go_sem] theorem T28f0v (cs) : fieldA Try.prog 28 0 (.agg cs) = takeT Try.prog 3 (cs.drop 0) := fi_agg (by kernel_rfl) cs
@[go_sem] theorem T28f1p (k g off) : fieldAddrA Try.prog 28 1 (.ptr k g off) = some (.ptr k g (off + 1)) := fa_ptr (s := 0) (ft := 3) (by kernel_rfl) (by kernel_rfl) k g off
@[go_sem] theorem T28f1q (cs) : fieldAddrA Try.prog 28 1 (.fptr cs) = some (.fptr (cs.drop 1)) := fa_fptr (s := 0) (ft := 3) (by kernel_rfl) (by kernel_rfl) cs
@[go_sem] theorem T28f1v (cs) : fieldA Try.prog 28 1 (.agg cs) = takeT Try.prog 3 (cs.drop 1) := fi_agg (by kernel_rfl) cs
@[go_sem] theorem T28f2p (k g off) : fieldAddrA Try.prog 28 2 (.ptr k g off) = some (.ptr k g (off + 2)) := fa_ptr (s := 0) (ft := 3) (by kernel_rfl) (by kernel_rfl) k g off
@[go_sem] theorem T28f2q (cs) : fieldAddrA Try.prog 28 2 (.fptr cs) = some (.fptr (cs.drop 2)) := fa_fptr (s := 0) (ft := 3) (by kernel_rfl) (by kernel_rfl) cs
@[go_sem] theorem T28f2v (cs) : fieldA Try.prog 28 2 (.agg cs) = takeT Try.prog 3 (cs.drop 2) := fi_agg (by kernel_rfl) cs
@[go_sem] theorem T28f3p (k g off) : fieldAddrA Try.prog 28 3 (.ptr k g off) = some (.ptr k g (off + 3)) := fa_ptr (s := 0) (ft := 25) (by kernel_rfl) (by kernel_rfl) k g off
@[go_sem] theorem T28f3q (cs) : fieldAddrA Try.prog 28 3 (.fptr cs) = some (.fptr (cs.drop 3)) := fa_fptr (s := 0) (ft := 25) (by kernel_rfl) (by kernel_rfl) cs
@[go_sem] theorem T28f3v (cs) : fieldA Try.prog 28 3 (.agg cs) = takeT Try.prog 25 (cs.drop 3) := fi_agg (by kernel_rfl) cs
@[go_sem] theorem T28f4p (k g off) : fieldAddrA Try.prog 28 4 (.ptr k g off) = some (.ptr k g (off + 4)) := fa_ptr (s := 0) (ft := 26) (by kernel_rfl) (by kernel_rfl) k g off
@[go_sem] theorem T28f4q (cs) : fieldAddrA Try.prog 28 4 (.fptr cs) = some (.fptr (cs.drop 4)) := fa_fptr (s := 0) (ft := 26) (by kernel_rfl) (by kernel_rfl) cs
@[go_sem] theorem T28f4v (cs) : fieldA Try.prog 28 4 (.agg cs) = takeT Try.prog 26 (cs.drop 4) := fi_agg (by kernel_rfl) cs
@[go_sem] theorem T28bd (xs) : aBuild Try.prog 28 xs = (fillA (fun i => ([(0, 1), (1, 1), (2, 1), (3, 1), (4, 1)] : List (Nat × Nat))[i]?) [AV.int .i64 0, AV.int .i64 0, AV.int .i64 0, AV.nil, AV.nil] xs).map .agg := by kernel_rfl
@[go_sem] theorem T29s : tSize Try.prog 29 = some 1 := by kernel_rfl
@[go_sem] theorem T29a : tAgg Try.prog 29 = some false := by kernel_rfl
@[go_sem] theorem T29z : tZero Try.prog 29 = some [AV.int .i64 0] := by kernel_rfl
@[go_sem] theorem T29u : Try.prog.underlying 29 = some (.int .i64) := by kernel_rfl
@[go_sem] theorem T32s : tSize Try.prog 32 = some 1 := by kernel_rfl
@[go_sem] theorem T32a : tAgg Try.prog 32 = some false := by kernel_rfl
@[go_sem] theorem T32z : tZero Try.prog 32 = some [AV.nil] := by kernel_rfl
@[go_sem] theorem T32ln0 (o) : aLen Try.prog o 32 .nil = some (.int .i64 0) := ln_nil (e := 34) (by kernel_rfl) o
@[go_sem] theorem T32ln1 (o n cs) : aLen Try.prog o 32 (.sl n cs) = some (.int .i64 n) := ln_sl (e := 34) (by kernel_rfl) o n cs
@[go_sem] theorem T32ln2 (o k g off n) : aLen Try.prog o 32 (.ref k g off n) = some (.int .i64 n) := ln_ref (e := 34) (by kernel_rfl) o k g off n
@[go_sem] theorem T32ix1 (n cs i) : aIndexAddr Try.prog 32 (.sl n cs) i = if 0 ≤ i ∧ i < (n : Int) then some (.fptr (cs.drop (i.toNat * 5))) else none := ixs_sl (s := 5) (by kernel_rfl) n cs i
@[go_sem] theorem T32ix2 (k g off n i) : aIndexAddr Try.prog 32 (.ref k g off n) i = if 0 ≤ i ∧ i < (n : Int) then some (.ptr k g (off + i.toNat * 5)) else none := ixs_ref (s := 5) (by kernel_rfl) k g off n i
@[go_sem] theorem T32sl1 (n cs lo hi) : aSlice Try.prog 32 (.sl n cs) lo hi = if 0 ≤ lo.getD 0 ∧ lo.getD 0 ≤ hi.getD n ∧ hi.getD n ≤ n then some (.sl ((hi.getD n).toNat - (lo.getD 0).toNat) ((cs.take ((hi.getD n).toNat * 5)).drop ((lo.getD 0).toNat * 5))) else none := sl_sl (s := 5) (by kernel_rfl) n cs lo hi
@[go_sem] theorem T32sl2 (k g off n lo hi) : aSlice Try.prog 32 (.ref k g off n) lo hi = if 0 ≤ lo.getD 0 ∧ lo.getD 0 ≤ hi.getD n ∧ hi.getD n ≤ n then some (.ref k g (off + (lo.getD 0).toNat * 5) ((hi.getD n).toNat - (lo.getD 0).toNat)) else none := sl_ref (s := 4) (by kernel_rfl) k g off n lo hi
@[go_sem] theorem T32cp (k g off n x o nx) : aCopy Try.prog 32 (.ref k g off n) x ⟨o, nx⟩ = (srcOf o x).bind fun q => (rowIf (o k) g).bind (copyR k off n 5 q.1 q.2 o nx) := cp_ref (by kernel_rfl) k g off n x o nx
@[go_sem] theorem T32ms (tg l c o nx) : aMakeSlice Try.prog tg 32 l c ⟨o, nx⟩ = if 0 ≤ l ∧ l ≤ c ∧ c * 56 ≤ maxB ∧ c ≤ maxB then some (.ref tg tg 0 l.toNat, ⟨upd o tg (.row ⟨34, 5, tg, false, true, rep [AV.int .i64 0, AV.int .i64 0, AV.int .i64 0, AV.int .i64 0, AV.nil] l.toNat⟩), nx⟩) else none := ms_eq (e := 34) (s := 4) (b := 56) (z := [AV.int .i64 0, AV.int .i64 0, AV.int .i64 0, AV.int .i64 0, AV.nil]) (by kernel_rfl) (by kernel_rfl) (by kernel_rfl) (by kernel_rfl) rfl tg l c o nx
@[go_sem] theorem T32bs (tg n ps o nx) : aBuildSlice Try.prog tg 32 n ps ⟨o, nx⟩ = if n * 5 ≤ 16777216 then (fillA (fun i => some (i * 5, 5)) (rep [AV.int .i64 0, AV.int .i64 0, AV.int .i64 0, AV.int .i64 0, AV.nil] n) ps).map (fun cs => (.ref tg tg 0 n, ⟨upd o tg (.row ⟨34, 5, tg, false, true, cs⟩), nx⟩)) else none := bs_eq (e := 34) (s := 4) (z := [AV.int .i64 0, AV.int .i64 0, AV.int .i64 0, AV.int .i64 0, AV.nil]) (by kernel_rfl) (by kernel_rfl) (by kernel_rfl) rfl tg n ps o nx
@[go_sem] theorem T32ap (tg x y o nx) : aAppend Try.prog tg 32 32 x y ⟨o, nx⟩ = (srcOf o y).bind fun q => appW tg 34 5 56 x q.1 q.2 o nx := ap_eq (e := 34) (s := 4) (b := 55) (z := [AV.int .i64 0, AV.int .i64 0, AV.int .i64 0, AV.int .i64 0, AV.nil]) (by kernel_rfl) (by kernel_rfl) (by kernel_rfl) (by kernel_rfl) rfl (by kernel_rfl) tg x y o nx
@[go_sem] theorem T33s : tSize Try.prog 33 = some 5 := by kernel_rfl
@[go_sem] theorem T33a : tAgg Try.prog 33 = some true := by kernel_rfl
@[go_sem] theorem T33z : tZero Try.prog 33 = some [AV.int .i64 0, AV.int .i64 0, AV.int .i64 0, AV.int .i64 0, AV.nil] := by kernel_rfl
@[go_sem] theorem T33f0p (k g off) : fieldAddrA Try.prog 33 0 (.ptr k g off) = some (.ptr k g (off + 0)) := fa_ptr (s := 0) (ft := 3) (by kernel_rfl) (by kernel_rfl) k g off
@[go_sem] theorem T33f0q (cs) : fieldAddrA Try.prog 33 0 (.fptr cs) = some (.fptr (cs.drop 0)) := fa_fptr (s := 0) (ft := 3) (by kernel_rfl) (by kernel_rfl) cs
@[go_sem] theorem T33f0v (cs) : fieldA Try.prog 33 0 (.agg cs) = takeT Try.prog 3 (cs.drop 0) := fi_agg (by kernel_rfl) cs
@[go_sem] theorem T33f1p (k g off) : fieldAddrA Try.prog 33 1 (.ptr k g off) = some (.ptr k g (off + 1)) := fa_ptr (s := 0) (ft := 3) (by kernel_rfl) (by kernel_rfl) k g off
@[go_sem] theorem T33f1q (cs) : fieldAddrA Try.prog 33 1 (.fptr cs) = some (.fptr (cs.drop 1)) := fa_fptr (s := 0) (ft := 3) (by kernel_rfl) (by kernel_rfl) cs
@[go_sem] theorem T33f1v (cs) : fieldA Try.prog 33 1 (.agg cs) = takeT Try.prog 3 (cs.drop 1) := fi_agg (by kernel_rfl) cs
@[go_sem] theorem T33f2p (k g off) : fieldAddrA Try.prog 33 2 (.ptr k g off) = some (.ptr k g (off + 2)) := fa_ptr (s := 0) (ft := 3) (by kernel_rfl) (by kernel_rfl) k g off
@[go_sem] theorem T33f2q (cs) : fieldAddrA Try.prog 33 2 (.fptr cs) = some (.fptr (cs.drop 2)) := fa_fptr (s := 0) (ft := 3) (by kernel_rfl) (by kernel_rfl) cs
@[go_sem] theorem T33f2v (cs) : fieldA Try.prog 33 2 (.agg cs) = takeT Try.prog 3 (cs.drop 2) := fi_agg (by kernel_rfl) cs
@[go_sem] theorem T33f3p (k g off) : fieldAddrA Try.prog 33 3 (.ptr k g off) = some (.ptr k g (off + 3)) := fa_ptr (s := 0) (ft := 3) (by kernel_rfl) (by kernel_rfl) k g off
@[go_sem] theorem T33f3q (cs) : fieldAddrA Try.prog 33 3 (.fptr cs) = some (.fptr (cs.drop 3)) := fa_fptr (s := 0) (ft := 3) (by kernel_rfl) (by kernel_rfl) cs
@[go_sem] theorem T33f3v (cs) : fieldA Try.prog 33 3 (.agg cs) = takeT Try.prog 3 (cs.drop 3) := fi_agg (by kernel_rfl) cs
@[go_sem] theorem T33f4p (k g off) : fieldAddrA Try.prog 33 4 (.ptr k g off) = some (.ptr k g (off + 4)) := fa_ptr (s := 0) (ft := 32) (by kernel_rfl) (by kernel_rfl) k g off
@[go_sem] theorem T33f4q (cs) : fieldAddrA Try.prog 33 4 (.fptr cs) = some (.fptr (cs.drop 4)) := fa_fptr (s := 0) (ft := 32) (by kernel_rfl) (by kernel_rfl) cs
@[go_sem] theorem T33f4v (cs) : fieldA Try.prog 33 4 (.agg cs) = takeT Try.prog 32 (cs.drop 4) := fi_agg (by kernel_rfl) cs
@[go_sem] theorem T33bd (xs) : aBuild Try.prog 33 xs = (fillA (fun i => ([(0, 1), (1, 1), (2, 1), (3, 1), (4, 1)] : List (Nat × Nat))[i]?) [AV.int .i64 0, AV.int .i64 0, AV.int .i64 0, AV.int .i64 0, AV.nil] xs).map .agg := by kernel_rfl
@[go_sem] theorem T34s : tSize Try.prog 34 = some 5 := by kernel_rfl
@[go_sem] theorem T34a : tAgg Try.prog 34 = some true := by kernel_rfl
@[go_sem] theorem T34z : tZero Try.prog 34 = some [AV.int .i64 0, AV.int .i64 0, AV.int .i64 0, AV.int .i64 0, AV.nil] := by kernel_rfl
@[go_sem] theorem T34f0p (k g off) : fieldAddrA Try.prog 34 0 (.ptr k g off) = some (.ptr k g (off + 0)) := fa_ptr (s := 0) (ft := 3) (by kernel_rfl) (by kernel_rfl) k g off
@[go_sem] theorem T34f0q (cs) : fieldAddrA Try.prog 34 0 (.fptr cs) = some (.fptr (cs.drop 0)) := fa_fptr (s := 0) (ft := 3) (by kernel_rfl) (by kernel_rfl) cs
@[go_sem] theorem T34f0v (cs) : fieldA Try.prog 34 0 (.agg cs) = takeT Try.prog 3 (cs.drop 0) := fi_agg (by kernel_rfl) cs
@[go_sem] theorem T34f1p (k g off) : fieldAddrA Try.prog 34 1 (.ptr k g off) = some (.ptr k g (off + 1)) := fa_ptr (s := 0) (ft := 3) (by kernel_rfl) (by kernel_rfl) k g off
@[go_sem] theorem T34f1q (cs) : fieldAddrA Try.prog 34 1 (.fptr cs) = some (.fptr (cs.drop 1)) := fa_fptr (s := 0) (ft := 3) (by kernel_rfl) (by kernel_rfl) cs
@[go_sem] theorem T34f1v (cs) : fieldA Try.prog 34 1 (.agg cs) = takeT Try.prog 3 (cs.drop 1) := fi_agg (by kernel_rfl) cs
@[go_sem] theorem T34f2p (k g off) : fieldAddrA Try.prog 34 2 (.ptr k g off) = some (.ptr k g (off + 2)) := fa_ptr (s := 0) (ft := 3) (by kernel_rfl) (by kernel_rfl) k g off
@[go_sem] theorem T34f2q (cs) : fieldAddrA Try.prog 34 2 (.fptr cs) = some (.fptr (cs.drop 2)) := fa_fptr (s := 0) (ft := 3) (by kernel_rfl) (by kernel_rfl) cs
@[go_sem] theorem T34f2v (cs) : fieldA Try.prog 34 2 (.agg cs) = takeT Try.prog 3 (cs.drop 2) := fi_agg (by kernel_rfl) cs
@[go_sem] theorem T34f3p (k g off) : fieldAddrA Try.prog 34 3 (.ptr k g off) = some (.ptr k g (off + 3)) := fa_ptr (s := 0) (ft := 3) (by kernel_rfl) (by kernel_rfl) k g off
@[go_sem] theorem T34f3q (cs) : fieldAddrA Try.prog 34 3 (.fptr cs) = some (.fptr (cs.drop 3)) := fa_fptr (s := 0) (ft := 3) (by kernel_rfl) (by kernel_rfl) cs
@[go_sem] theorem T34f3v (cs) : fieldA Try.prog 34 3 (.agg cs) = takeT Try.prog 3 (cs.drop 3) := fi_agg (by kernel_rfl) cs
@[go_sem] theorem T34f4p (k g off) : fieldAddrA Try.prog 34 4 (.ptr k g off) = some (.ptr k g (off + 4)) := fa_ptr (s := 0) (ft := 32) (by kernel_rfl) (by kernel_rfl) k g off
@[go_sem] theorem T34f4q (cs) : fieldAddrA Try.prog 34 4 (.fptr cs) = some (.fptr (cs.drop 4)) := fa_fptr (s := 0) (ft := 32) (by kernel_rfl) (by kernel_rfl) cs
@[go_sem] theorem T34f4v (cs) : fieldA Try.prog 34 4 (.agg cs) = takeT Try.prog 32 (cs.drop 4) := fi_agg (by kernel_rfl) cs
@[go_sem] theorem T34bd (xs) : aBuild Try.prog 34 xs = (fillA (fun i => ([(0, 1), (1, 1), (2, 1), (3, 1), (4, 1)] : List (Nat × Nat))[i]?) [AV.int .i64 0, AV.int .i64 0, AV.int .i64 0, AV.int .i64 0, AV.nil] xs).map .agg := by kernel_rfl
@[go_sem] theorem T40s : tSize Try.prog 40 = some 1 := by kernel_rfl
@[go_sem] theorem T40a : tAgg Try.prog 40 = some false := by kernel_rfl
@[go_sem] theorem T40z : tZero Try.prog 40 = some [AV.nil] := by kernel_rfl
@[go_sem] theorem T40ln0 (o) : aLen Try.prog o 40 .nil = some (.int .i64 0) := ln_nil (e := 3) (by kernel_rfl) o
@[go_sem] theorem T40ln1 (o n cs) : aLen Try.prog o 40 (.sl n cs) = some (.int .i64 n) := ln_sl (e := 3) (by kernel_rfl) o n cs
@[go_sem] theorem T40ln2 (o k g off n) : aLen Try.prog o 40 (.ref k g off n) = some (.int .i64 n) := ln_ref (e := 3) (by kernel_rfl) o k g off n
@[go_sem] theorem T40ix1 (n cs i) : aIndexAddr Try.prog 40 (.sl n cs) i = if 0 ≤ i ∧ i < (n : Int) then some (.fptr (cs.drop (i.toNat * 1))) else none := ixs_sl (s := 1) (by kernel_rfl) n cs i
@[go_sem] theorem T40ix2 (k g off n i) : aIndexAddr Try.prog 40 (.ref k g off n) i = if 0 ≤ i ∧ i < (n : Int) then some (.ptr k g (off + i.toNat * 1)) else none := ixs_ref (s := 1) (by kernel_rfl) k g off n i
@[go_sem] theorem T40sl1 (n cs lo hi) : aSlice Try.prog 40 (.sl n cs) lo hi = if 0 ≤ lo.getD 0 ∧ lo.getD 0 ≤ hi.getD n ∧ hi.getD n ≤ n then some (.sl ((hi.getD n).toNat - (lo.getD 0).toNat) ((cs.take ((hi.getD n).toNat * 1)).drop ((lo.getD 0).toNat * 1))) else none := sl_sl (s := 1) (by kernel_rfl) n cs lo hi
@[go_sem] theorem T40sl2 (k g off n lo hi) : aSlice Try.prog 40 (.ref k g off n) lo hi = if 0 ≤ lo.getD 0 ∧ lo.getD 0 ≤ hi.getD n ∧ hi.getD n ≤ n then some (.ref k g (off + (lo.getD 0).toNat * 1) ((hi.getD n).toNat - (lo.getD 0).toNat)) else none := sl_ref (s := 0) (by kernel_rfl) k g off n lo hi
@[go_sem] theorem T40cp (k g off n x o nx) : aCopy Try.prog 40 (.ref k g off n) x ⟨o, nx⟩ = (srcOf o x).bind fun q => (rowIf (o k) g).bind (copyR k off n 1 q.1 q.2 o nx) := cp_ref (by kernel_rfl) k g off n x o nx
@[go_sem] theorem T40ms (tg l c o nx) : aMakeSlice Try.prog tg 40 l c ⟨o, nx⟩ = if 0 ≤ l ∧ l ≤ c ∧ c * 8 ≤ maxB ∧ c ≤ maxB then some (.ref tg tg 0 l.toNat, ⟨upd o tg (.row ⟨3, 1, tg, false, true, rep [AV.int .i64 0] l.toNat⟩), nx⟩) else none := ms_eq (e := 3) (s := 0) (b := 8) (z := [AV.int .i64 0]) (by kernel_rfl) (by kernel_rfl) (by kernel_rfl) (by kernel_rfl) rfl tg l c o nx
@[go_sem] theorem T40bs (tg n ps o nx) : aBuildSlice Try.prog tg 40 n ps ⟨o, nx⟩ = if n * 1 ≤ 16777216 then (fillA (fun i => some (i * 1, 1)) (rep [AV.int .i64 0] n) ps).map (fun cs => (.ref tg tg 0 n, ⟨upd o tg (.row ⟨3, 1, tg, false, true, cs⟩), nx⟩)) else none := bs_eq (e := 3) (s := 0) (z := [AV.int .i64 0]) (by kernel_rfl) (by kernel_rfl) (by kernel_rfl) rfl tg n ps o nx
@[go_sem] theorem T40ap (tg x y o nx) : aAppend Try.prog tg 40 40 x y ⟨o, nx⟩ = (srcOf o y).bind fun q => appW tg 3 1 8 x q.1 q.2 o nx := ap_eq (e := 3) (s := 0) (b := 7) (z := [AV.int .i64 0]) (by kernel_rfl) (by kernel_rfl) (by kernel_rfl) (by kernel_rfl) rfl (by kernel_rfl) tg x y o nx
@[go_sem] theorem T47s : tSize Try.prog 47 = some 3 := by kernel_rfl
@[go_sem] theorem T47a : tAgg Try.prog 47 = some true := by kernel_rfl
@[go_sem] theorem T47z : tZero Try.prog 47 = some [AV.int .i64 0, AV.int .i64 0, AV.int .i64 0] := by kernel_rfl
@[go_sem] theorem T47f0p (k g off) : fieldAddrA Try.prog 47 0 (.ptr k g off) = some (.ptr k g (off + 0)) := fa_ptr (s := 0) (ft := 3) (by kernel_rfl) (by kernel_rfl) k g off
@[go_sem] theorem T47f0q (cs) : fieldAddrA Try.prog 47 0 (.fptr cs) = some (.fptr (cs.drop 0)) := fa_fptr (s := 0) (ft := 3) (by kernel_rfl) (by kernel_rfl) cs
@[go_sem] theorem T47f0v (cs) : fieldA Try.prog 47 0 (.agg cs) = takeT Try.prog 3 (cs.drop 0) := fi_agg (by kernel_rfl) cs
@[go_sem] theorem T47f1p (k g off) : fieldAddrA Try.prog 47 1 (.ptr k g off) = some (.ptr k g (off + 1)) := fa_ptr (s := 0) (ft := 3) (by kernel_rfl) (by kernel_rfl) k g off
@[go_sem] theorem T47f1q (cs) : fieldAddrA Try.prog 47 1 (.fptr cs) = some (.fptr (cs.drop 1)) := fa_fptr (s := 0) (ft := 3) (by kernel_rfl) (by kernel_rfl) cs
@[go_sem] theorem T47f1v (cs) : fieldA Try.prog 47 1 (.agg cs) = takeT Try.prog 3 (cs.drop 1) := fi_agg (by kernel_rfl) cs
@[go_sem] theorem T47f2p (k g off) : fieldAddrA Try.prog 47 2 (.ptr k g off) = some (.ptr k g (off + 2)) := fa_ptr (s := 0) (ft := 3) (by kernel_rfl) (by kernel_rfl) k g off
@[go_sem] theorem T47f2q (cs) : fieldAddrA Try.prog 47 2 (.fptr cs) = some (.fptr (cs.drop 2)) := fa_fptr (s := 0) (ft := 3) (by kernel_rfl) (by kernel_rfl) cs
@[go_sem] theorem T47f2v (cs) : fieldA Try.prog 47 2 (.agg cs) = takeT Try.prog 3 (cs.drop 2) := fi_agg (by kernel_rfl) cs
@[go_sem] theorem T47bd (xs) : aBuild Try.prog 47 xs = (fillA (fun i => ([(0, 1), (1, 1), (2, 1)] : List (Nat × Nat))[i]?) [AV.int .i64 0, AV.int .i64 0, AV.int .i64 0] xs).map .agg := by kernel_rfl
@[go_sem] theorem T47lf : eqLeaves Try.prog 47 = some [Leaf.int, Leaf.int, Leaf.int] := by kernel_rfl
@[go_sem] theorem T48s : tSize Try.prog 48 = some 3 := by kernel_rfl
@[go_sem] theorem T48a : tAgg Try.prog 48 = some true := by kernel_rfl
@[go_sem] theorem T48z : tZero Try.prog 48 = some [AV.int .i64 0, AV.int .i64 0, AV.int .i64 0] := by kernel_rfl
@[go_sem] theorem T48f0p (k g off) : fieldAddrA Try.prog 48 0 (.ptr k g off) = some (.ptr k g (off + 0)) := fa_ptr (s := 0) (ft := 3) (by kernel_rfl) (by kernel_rfl) k g off
@[go_sem] theorem T48f0q (cs) : fieldAddrA Try.prog 48 0 (.fptr cs) = some (.fptr (cs.drop 0)) := fa_fptr (s := 0) (ft := 3) (by kernel_rfl) (by kernel_rfl) cs
@[go_sem] theorem T48f0v (cs) : fieldA Try.prog 48 0 (.agg cs) = takeT Try.prog 3 (cs.drop 0) := fi_agg (by kernel_rfl) cs
@[go_sem] theorem T48f1p (k g off) : fieldAddrA Try.prog 48 1 (.ptr k g off) = some (.ptr k g (off + 1)) := fa_ptr (s := 0) (ft := 3) (by kernel_rfl) (by kernel_rfl) k g off
@[go_sem] theorem T48f1q (cs) : fieldAddrA Try.prog 48 1 (.fptr cs) = some (.fptr (cs.drop 1)) := fa_fptr (s := 0) (ft := 3) (by kernel_rfl) (by kernel_rfl) cs
@[go_sem] theorem T48f1v (cs) : fieldA Try.prog 48 1 (.agg cs) = takeT Try.prog 3 (cs.drop 1) := fi_agg (by kernel_rfl) cs
@[go_sem] theorem T48f2p (k g off) : fieldAddrA Try.prog 48 2 (.ptr k g off) = some (.ptr k g (off + 2)) := fa_ptr (s := 0) (ft := 3) (by kernel_rfl) (by kernel_rfl) k g off
@[go_sem] theorem T48f2q (cs) : fieldAddrA Try.prog 48 2 (.fptr cs) = some (.fptr (cs.drop 2)) := fa_fptr (s := 0) (ft := 3) (by kernel_rfl) (by kernel_rfl) cs
@[go_sem] theorem T48f2v (cs) : fieldA Try.prog 48 2 (.agg cs) = takeT Try.prog 3 (cs.drop 2) := fi_agg (by kernel_rfl) cs
@[go_sem] theorem T48bd (xs) : aBuild Try.prog 48 xs = (fillA (fun i => ([(0, 1), (1, 1), (2, 1)] : List (Nat × Nat))[i]?) [AV.int .i64 0, AV.int .i64 0, AV.int .i64 0] xs).map .agg := by kernel_rfl
@[go_sem] theorem T48lf : eqLeaves Try.prog 48 = some [Leaf.int, Leaf.int, Leaf.int] := by kernel_rfl
@[go_sem] theorem T49s : tSize Try.prog 49 = some 2 := by kernel_rfl
@[go_sem] theorem T49a : tAgg Try.prog 49 = some true := by kernel_rfl
@[go_sem] theorem T49z : tZero Try.prog 49 = some [AV.int .i64 0, AV.int .i64 0] := by kernel_rfl
@[go_sem] theorem T49ln (o x) : aLen Try.prog o 49 x = some (.int .i64 2) := ln_arr (e := 3) (by kernel_rfl) o x
@[go_sem] theorem T49ix1 (cs i) : aIndexAddr Try.prog 49 (.fptr cs) i = if 0 ≤ i ∧ i < 2 then some (.fptr (cs.drop (i.toNat * 1))) else none := ixa_fptr (n := 2) (e := 3) (s := 1) (by kernel_rfl) (by kernel_rfl) cs i
@[go_sem] theorem T49ix2 (k g off i) : aIndexAddr Try.prog 49 (.ptr k g off) i = if 0 ≤ i ∧ i < 2 then some (.ptr k g (off + i.toNat * 1)) else none := ixa_ptr (n := 2) (e := 3) (s := 1) (by kernel_rfl) (by kernel_rfl) k g off i
@[go_sem] theorem T49iv (cs i) : aIndex Try.prog 49 (.agg cs) i = if 0 ≤ i ∧ i < 2 then takeT Try.prog 3 (cs.drop (i.toNat * 1)) else none := ixv_agg (n := 2) (e := 3) (s := 1) (by kernel_rfl) (by kernel_rfl) cs i
@[go_sem] theorem T49bd (xs) : aBuild Try.prog 49 xs = (fillA (fun i => some (i * 1, 1)) [AV.int .i64 0, AV.int .i64 0] xs).map .agg := bd_array (n := 2) (e := 3) (by kernel_rfl) (by kernel_rfl) (by kernel_rfl) xs
@[go_sem] theorem T49lf : eqLeaves Try.prog 49 = some [Leaf.int, Leaf.int] := by kernel_rfl
@[go_sem] theorem T56s : tSize Try.prog 56 = some 1 := by kernel_rfl
@[go_sem] theorem T56a : tAgg Try.prog 56 = some false := by kernel_rfl
@[go_sem] theorem T56z : tZero Try.prog 56 = some [AV.nil] := by kernel_rfl
@[go_sem] theorem T56ln0 (o) : aLen Try.prog o 56 .nil = some (.int .i64 0) := ln_nil (e := 9) (by kernel_rfl) o
@[go_sem] theorem T56ln1 (o n cs) : aLen Try.prog o 56 (.sl n cs) = some (.int .i64 n) := ln_sl (e := 9) (by kernel_rfl) o n cs
@[go_sem] theorem T56ln2 (o k g off n) : aLen Try.prog o 56 (.ref k g off n) = some (.int .i64 n) := ln_ref (e := 9) (by kernel_rfl) o k g off n
@[go_sem] theorem T56ix1 (n cs i) : aIndexAddr Try.prog 56 (.sl n cs) i = if 0 ≤ i ∧ i < (n : Int) then some (.fptr (cs.drop (i.toNat * 1))) else none := ixs_sl (s := 1) (by kernel_rfl) n cs i
@[go_sem] theorem T56ix2 (k g off n i) : aIndexAddr Try.prog 56 (.ref k g off n) i = if 0 ≤ i ∧ i < (n : Int) then some (.ptr k g (off + i.toNat * 1)) else none := ixs_ref (s := 1) (by kernel_rfl) k g off n i
@[go_sem] theorem T56sl1 (n cs lo hi) : aSlice Try.prog 56 (.sl n cs) lo hi = if 0 ≤ lo.getD 0 ∧ lo.getD 0 ≤ hi.getD n ∧ hi.getD n ≤ n then some (.sl ((hi.getD n).toNat - (lo.getD 0).toNat) ((cs.take ((hi.getD n).toNat * 1)).drop ((lo.getD 0).toNat * 1))) else none := sl_sl (s := 1) (by kernel_rfl) n cs lo hi
@[go_sem] theorem T56sl2 (k g off n lo hi) : aSlice Try.prog 56 (.ref k g off n) lo hi = if 0 ≤ lo.getD 0 ∧ lo.getD 0 ≤ hi.getD n ∧ hi.getD n ≤ n then some (.ref k g (off + (lo.getD 0).toNat * 1) ((hi.getD n).toNat - (lo.getD 0).toNat)) else none := sl_ref (s := 0) (by kernel_rfl) k g off n lo hi
@[go_sem] theorem T56cp (k g off n x o nx) : aCopy Try.prog 56 (.ref k g off n) x ⟨o, nx⟩ = (srcOf o x).bind fun q => (rowIf (o k) g).bind (copyR k off n 1 q.1 q.2 o nx) := cp_ref (by kernel_rfl) k g off n x o nx
@[go_sem] theorem T56ms (tg l c o nx) : aMakeSlice Try.prog tg 56 l c ⟨o, nx⟩ = if 0 ≤ l ∧ l ≤ c ∧ c * 16 ≤ maxB ∧ c ≤ maxB then some (.ref tg tg 0 l.toNat, ⟨upd o tg (.row ⟨9, 1, tg, false, true, rep [AV.str []] l.toNat⟩), nx⟩) else none := ms_eq (e := 9) (s := 0) (b := 16) (z := [AV.str []]) (by kernel_rfl) (by kernel_rfl) (by kernel_rfl) (by kernel_rfl) rfl tg l c o nx
@[go_sem] theorem T56bs (tg n ps o nx) : aBuildSlice Try.prog tg 56 n ps ⟨o, nx⟩ = if n * 1 ≤ 16777216 then (fillA (fun i => some (i * 1, 1)) (rep [AV.str []] n) ps).map (fun cs => (.ref tg tg 0 n, ⟨upd o tg (.row ⟨9, 1, tg, false, true, cs⟩), nx⟩)) else none := bs_eq (e := 9) (s := 0) (z := [AV.str []]) (by kernel_rfl) (by kernel_rfl) (by kernel_rfl) rfl tg n ps o nx
@[go_sem] theorem T56ap (tg x y o nx) : aAppend Try.prog tg 56 56 x y ⟨o, nx⟩ = (srcOf o y).bind fun q => appW tg 9 1 16 x q.1 q.2 o nx := ap_eq (e := 9) (s := 0) (b := 15) (z := [AV.str []]) (by kernel_rfl) (by kernel_rfl) (by kernel_rfl) (by kernel_rfl) rfl (by kernel_rfl) tg x y o nx
@[go_sem] theorem T61s : tSize Try.prog 61 = some 1 := by kernel_rfl
@[go_sem] theorem T61a : tAgg Try.prog 61 = some false := by kernel_rfl
@[go_sem] theorem T62s : tSize Try.prog 62 = some 5 := by kernel_rfl
@[go_sem] theorem T62a : tAgg Try.prog 62 = some true := by kernel_rfl
@[go_sem] theorem T62z : tZero Try.prog 62 = some [AV.int .i64 0, AV.int .i64 0, AV.int .i64 0, AV.nil, AV.nil] := by kernel_rfl
@[go_sem] theorem T62f0p (k g off) : fieldAddrA Try.prog 62 0 (.ptr k g off) = some (.ptr k g (off + 0)) := fa_ptr (s := 4) (ft := 28) (by kernel_rfl) (by kernel_rfl) k g off
@[go_sem] theorem T62f0q (cs) : fieldAddrA Try.prog 62 0 (.fptr cs) = some (.fptr (cs.drop 0)) := fa_fptr (s := 4) (ft := 28) (by kernel_rfl) (by kernel_rfl) cs
@[go_sem] theorem T62f0v (cs) : fieldA Try.prog 62 0 (.agg cs) = takeT Try.prog 28 (cs.drop 0) := fi_agg (by kernel_rfl) cs
@[go_sem] theorem T62bd (xs) : aBuild Try.prog 62 xs = (fillA (fun i => ([(0, 5)] : List (Nat × Nat))[i]?) [AV.int .i64 0, AV.int .i64 0, AV.int .i64 0, AV.nil, AV.nil] xs).map .agg := by kernel_rfl
@[go_sem] theorem T63s : tSize Try.prog 63 = some 5 := by kernel_rfl
@[go_sem] theorem T63a : tAgg Try.prog 63 = some true := by kernel_rfl
@[go_sem] theorem T63z : tZero Try.prog 63 = some [AV.int .i64 0, AV.int .i64 0, AV.int .i64 0, AV.nil, AV.nil] := by kernel_rfl
@[go_sem] theorem T63f0p (k g off) : fieldAddrA Try.prog 63 0 (.ptr k g off) = some (.ptr k g (off + 0)) := fa_ptr (s := 4) (ft := 28) (by kernel_rfl) (by kernel_rfl) k g off
@[go_sem] theorem T63f0q (cs) : fieldAddrA Try.prog 63 0 (.fptr cs) = some (.fptr (cs.drop 0)) := fa_fptr (s := 4) (ft := 28) (by kernel_rfl) (by kernel_rfl) cs
@[go_sem] theorem T63f0v (cs) : fieldA Try.prog 63 0 (.agg cs) = takeT Try.prog 28 (cs.drop 0) := fi_agg (by kernel_rfl) cs
@[go_sem] theorem T63bd (xs) : aBuild Try.prog 63 xs = (fillA (fun i => ([(0, 5)] : List (Nat × Nat))[i]?) [AV.int .i64 0, AV.int .i64 0, AV.int .i64 0, AV.nil, AV.nil] xs).map .agg := by kernel_rfl
@[go_sem] theorem T64s : tSize Try.prog 64 = some 2 := by kernel_rfl
@[go_sem] theorem T64a : tAgg Try.prog 64 = some true := by kernel_rfl
@[go_sem] theorem T64z : tZero Try.prog 64 = some [AV.int .i64 0, AV.int .i64 0] := by kernel_rfl
@[go_sem] theorem T64f0p (k g off) : fieldAddrA Try.prog 64 0 (.ptr k g off) = some (.ptr k g (off + 0)) := fa_ptr (s := 0) (ft := 3) (by kernel_rfl) (by kernel_rfl) k g off
@[go_sem] theorem T64f0q (cs) : fieldAddrA Try.prog 64 0 (.fptr cs) = some (.fptr (cs.drop 0)) := fa_fptr (s := 0) (ft := 3) (by kernel_rfl) (by kernel_rfl) cs
@[go_sem] theorem T64f0v (cs) : fieldA Try.prog 64 0 (.agg cs) = takeT Try.prog 3 (cs.drop 0) := fi_agg (by kernel_rfl) cs
@[go_sem] theorem T64f1p (k g off) : fieldAddrA Try.prog 64 1 (.ptr k g off) = some (.ptr k g (off + 1)) := fa_ptr (s := 0) (ft := 3) (by kernel_rfl) (by kernel_rfl) k g off
@[go_sem] theorem T64f1q (cs) : fieldAddrA Try.prog 64 1 (.fptr cs) = some (.fptr (cs.drop 1)) := fa_fptr (s := 0) (ft := 3) (by kernel_rfl) (by kernel_rfl) cs
@[go_sem] theorem T64f1v (cs) : fieldA Try.prog 64 1 (.agg cs) = takeT Try.prog 3 (cs.drop 1) := fi_agg (by kernel_rfl) cs
@[go_sem] theorem T64bd (xs) : aBuild Try.prog 64 xs = (fillA (fun i => ([(0, 1), (1, 1)] : List (Nat × Nat))[i]?) [AV.int .i64 0, AV.int .i64 0] xs).map .agg := by kernel_rfl
@[go_sem] theorem T64lf : eqLeaves Try.prog 64 = some [Leaf.int, Leaf.int] := by kernel_rfl
@[go_sem] theorem T65s : tSize Try.prog 65 = some 2 := by kernel_rfl
@[go_sem] theorem T65a : tAgg Try.prog 65 = some true := by kernel_rfl
@[go_sem] theorem T65z : tZero Try.prog 65 = some [AV.int .i64 0, AV.int .i64 0] := by kernel_rfl
@[go_sem] theorem T65f0p (k g off) : fieldAddrA Try.prog 65 0 (.ptr k g off) = some (.ptr k g (off + 0)) := fa_ptr (s := 0) (ft := 3) (by kernel_rfl) (by kernel_rfl) k g off
@[go_sem] theorem T65f0q (cs) : fieldAddrA Try.prog 65 0 (.fptr cs) = some (.fptr (cs.drop 0)) := fa_fptr (s := 0) (ft := 3) (by kernel_rfl) (by kernel_rfl) cs
@[go_sem] theorem T65f0v (cs) : fieldA Try.prog 65 0 (.agg cs) = takeT Try.prog 3 (cs.drop 0) := fi_agg (by kernel_rfl) cs
@[go_sem] theorem T65f1p (k g off) : fieldAddrA Try.prog 65 1 (.ptr k g off) = some (.ptr k g (off + 1)) := fa_ptr (s := 0) (ft := 3) (by kernel_rfl) (by kernel_rfl) k g off
@[go_sem] theorem T65f1q (cs) : fieldAddrA Try.prog 65 1 (.fptr cs) = some (.fptr (cs.drop 1)) := fa_fptr (s := 0) (ft := 3) (by kernel_rfl) (by kernel_rfl) cs
@[go_sem] theorem T65f1v (cs) : fieldA Try.prog 65 1 (.agg cs) = takeT Try.prog 3 (cs.drop 1) := fi_agg (by kernel_rfl) cs
@[go_sem] theorem T65bd (xs) : aBuild Try.prog 65 xs = (fillA (fun i => ([(0, 1), (1, 1)] : List (Nat × Nat))[i]?) [AV.int .i64 0, AV.int .i64 0] xs).map .agg := by kernel_rfl
@[go_sem] theorem T65lf : eqLeaves Try.prog 65 = some [Leaf.int, Leaf.int] := by kernel_rfl
@[go_sem] theorem T67s : tSize Try.prog 67 = some 3 := by kernel_rfl
@[go_sem] theorem T67a : tAgg Try.prog 67 = some true := by kernel_rfl
@[go_sem] theorem T67z : tZero Try.prog 67 = some [AV.int .i64 0, AV.int .i64 0, AV.nil] := by kernel_rfl
@[go_sem] theorem T67f0p (k g off) : fieldAddrA Try.prog 67 0 (.ptr k g off) = some (.ptr k g (off + 0)) := fa_ptr (s := 0) (ft := 3) (by kernel_rfl) (by kernel_rfl) k g off
@[go_sem] theorem T67f0q (cs) : fieldAddrA Try.prog 67 0 (.fptr cs) = some (.fptr (cs.drop 0)) := fa_fptr (s := 0) (ft := 3) (by kernel_rfl) (by kernel_rfl) cs
@[go_sem] theorem T67f0v (cs) : fieldA Try.prog 67 0 (.agg cs) = takeT Try.prog 3 (cs.drop 0) := fi_agg (by kernel_rfl) cs
@[go_sem] theorem T67f1p (k g off) : fieldAddrA Try.prog 67 1 (.ptr k g off) = some (.ptr k g (off + 1)) := fa_ptr (s := 0) (ft := 3) (by kernel_rfl) (by kernel_rfl) k g off
@[go_sem] theorem T67f1q (cs) : fieldAddrA Try.prog 67 1 (.fptr cs) = some (.fptr (cs.drop 1)) := fa_fptr (s := 0) (ft := 3) (by kernel_rfl) (by kernel_rfl) cs
@[go_sem] theorem T67f1v (cs) : fieldA Try.prog 67 1 (.agg cs) = takeT Try.prog 3 (cs.drop 1) := fi_agg (by kernel_rfl) cs
@[go_sem] theorem T67f2p (k g off) : fieldAddrA Try.prog 67 2 (.ptr k g off) = some (.ptr k g (off + 2)) := fa_ptr (s := 0) (ft := 22) (by kernel_rfl) (by kernel_rfl) k g off
@[go_sem] theorem T67f2q (cs) : fieldAddrA Try.prog 67 2 (.fptr cs) = some (.fptr (cs.drop 2)) := fa_fptr (s := 0) (ft := 22) (by kernel_rfl) (by kernel_rfl) cs
@[go_sem] theorem T67f2v (cs) : fieldA Try.prog 67 2 (.agg cs) = takeT Try.prog 22 (cs.drop 2) := fi_agg (by kernel_rfl) cs
@[go_sem] theorem T67bd (xs) : aBuild Try.prog 67 xs = (fillA (fun i => ([(0, 1), (1, 1), (2, 1)] : List (Nat × Nat))[i]?) [AV.int .i64 0, AV.int .i64 0, AV.nil] xs).map .agg := by kernel_rfl
@[go_sem] theorem T68s : tSize Try.prog 68 = some 3 := by kernel_rfl
@[go_sem] theorem T68a : tAgg Try.prog 68 = some true := by kernel_rfl
@[go_sem] theorem T68z : tZero Try.prog 68 = some [AV.int .i64 0, AV.int .i64 0, AV.nil] := by kernel_rfl
@[go_sem] theorem T68f0p (k g off) : fieldAddrA Try.prog 68 0 (.ptr k g off) = some (.ptr k g (off + 0)) := fa_ptr (s := 0) (ft := 3) (by kernel_rfl) (by kernel_rfl) k g off
@[go_sem] theorem T68f0q (cs) : fieldAddrA Try.prog 68 0 (.fptr cs) = some (.fptr (cs.drop 0)) := fa_fptr (s := 0) (ft := 3) (by kernel_rfl) (by kernel_rfl) cs
@[go_sem] theorem T68f0v (cs) : fieldA Try.prog 68 0 (.agg cs) = takeT Try.prog 3 (cs.drop 0) := fi_agg (by kernel_rfl) cs
@[go_sem] theorem T68f1p (k g off) : fieldAddrA Try.prog 68 1 (.ptr k g off) = some (.ptr k g (off + 1)) := fa_ptr (s := 0) (ft := 3) (by kernel_rfl) (by kernel_rfl) k g off
@[go_sem] theorem T68f1q (cs) : fieldAddrA Try.prog 68 1 (.fptr cs) = some (.fptr (cs.drop 1)) := fa_fptr (s := 0) (ft := 3) (by kernel_rfl) (by kernel_rfl) cs
@[go_sem] theorem T68f1v (cs) : fieldA Try.prog 68 1 (.agg cs) = takeT Try.prog 3 (cs.drop 1) := fi_agg (by kernel_rfl) cs
@[go_sem] theorem T68f2p (k g off) : fieldAddrA Try.prog 68 2 (.ptr k g off) = some (.ptr k g (off + 2)) := fa_ptr (s := 0) (ft := 22) (by kernel_rfl) (by kernel_rfl) k g off
@[go_sem] theorem T68f2q (cs) : fieldAddrA Try.prog 68 2 (.fptr cs) = some (.fptr (cs.drop 2)) := fa_fptr (s := 0) (ft := 22) (by kernel_rfl) (by kernel_rfl) cs
@[go_sem] theorem T68f2v (cs) : fieldA Try.prog 68 2 (.agg cs) = takeT Try.prog 22 (cs.drop 2) := fi_agg (by kernel_rfl) cs
@[go_sem] theorem T68bd (xs) : aBuild Try.prog 68 xs = (fillA (fun i => ([(0, 1), (1, 1), (2, 1)] : List (Nat × Nat))[i]?) [AV.int .i64 0, AV.int .i64 0, AV.nil] xs).map .agg := by kernel_rfl
@[go_sem] theorem T70s : tSize Try.prog 70 = some 1 := by kernel_rfl
@[go_sem] theorem T70a : tAgg Try.prog 70 = some false := by kernel_rfl
@[go_sem] theorem T71s : tSize Try.prog 71 = some 6 := by kernel_rfl
@[go_sem] theorem T71a : tAgg Try.prog 71 = some true := by kernel_rfl
@[go_sem] theorem T71z : tZero Try.prog 71 = some [AV.int .i64 0, AV.int .i64 0, AV.int .i64 0, AV.nil, AV.nil, AV.bool false] := by kernel_rfl
@[go_sem] theorem T71f0p (k g off) : fieldAddrA Try.prog 71 0 (.ptr k g off) = some (.ptr k g (off + 0)) := fa_ptr (s := 4) (ft := 28) (by kernel_rfl) (by kernel_rfl) k g off
@[go_sem] theorem T71f0q (cs) : fieldAddrA Try.prog 71 0 (.fptr cs) = some (.fptr (cs.drop 0)) := fa_fptr (s := 4) (ft := 28) (by kernel_rfl) (by kernel_rfl) cs
@[go_sem] theorem T71f0v (cs) : fieldA Try.prog 71 0 (.agg cs) = takeT Try.prog 28 (cs.drop 0) := fi_agg (by kernel_rfl) cs
@[go_sem] theorem T71f1p (k g off) : fieldAddrA Try.prog 71 1 (.ptr k g off) = some (.ptr k g (off + 5)) := fa_ptr (s := 0) (ft := 4) (by kernel_rfl) (by kernel_rfl) k g off
@[go_sem] theorem T71f1q (cs) : fieldAddrA Try.prog 71 1 (.fptr cs) = some (.fptr (cs.drop 5)) := fa_fptr (s := 0) (ft := 4) (by kernel_rfl) (by kernel_rfl) cs
@[go_sem] theorem T71f1v (cs) : fieldA Try.prog 71 1 (.agg cs) = takeT Try.prog 4 (cs.drop 5) := fi_agg (by kernel_rfl) cs
@[go_sem] theorem T71bd (xs) : aBuild Try.prog 71 xs = (fillA (fun i => ([(0, 5), (5, 1)] : List (Nat × Nat))[i]?) [AV.int .i64 0, AV.int .i64 0, AV.int .i64 0, AV.nil, AV.nil, AV.bool false] xs).map .agg := by kernel_rfl
@[go_sem] theorem T72s : tSize Try.prog 72 = some 6 := by kernel_rfl
@[go_sem] theorem T72a : tAgg Try.prog 72 = some true := by kernel_rfl
@[go_sem] theorem T72z : tZero Try.prog 72 = some [AV.int .i64 0, AV.int .i64 0, AV.int .i64 0, AV.nil, AV.nil, AV.bool false] := by kernel_rfl
@[go_sem] theorem T72f0p (k g off) : fieldAddrA Try.prog 72 0 (.ptr k g off) = some (.ptr k g (off + 0)) := fa_ptr (s := 4) (ft := 28) (by kernel_rfl) (by kernel_rfl) k g off
@[go_sem] theorem T72f0q (cs) : fieldAddrA Try.prog 72 0 (.fptr cs) = some (.fptr (cs.drop 0)) := fa_fptr (s := 4) (ft := 28) (by kernel_rfl) (by kernel_rfl) cs
@[go_sem] theorem T72f0v (cs) : fieldA Try.prog 72 0 (.agg cs) = takeT Try.prog 28 (cs.drop 0) := fi_agg (by kernel_rfl) cs
@[go_sem] theorem T72f1p (k g off) : fieldAddrA Try.prog 72 1 (.ptr k g off) = some (.ptr k g (off + 5)) := fa_ptr (s := 0) (ft := 4) (by kernel_rfl) (by kernel_rfl) k g off
@[go_sem] theorem T72f1q (cs) : fieldAddrA Try.prog 72 1 (.fptr cs) = some (.fptr (cs.drop 5)) := fa_fptr (s := 0) (ft := 4) (by kernel_rfl) (by kernel_rfl) cs
@[go_sem] theorem T72f1v (cs) : fieldA Try.prog 72 1 (.agg cs) = takeT Try.prog 4 (cs.drop 5) := fi_agg (by kernel_rfl) cs
@[go_sem] theorem T72bd (xs) : aBuild Try.prog 72 xs = (fillA (fun i => ([(0, 5), (5, 1)] : List (Nat × Nat))[i]?) [AV.int .i64 0, AV.int .i64 0, AV.int .i64 0, AV.nil, AV.nil, AV.bool false] xs).map .agg := by kernel_rfl
@[go_sem] theorem T77s : tSize Try.prog 77 = some 1 := by kernel_rfl
@[go_sem] theorem T77a : tAgg Try.prog 77 = some false := by kernel_rfl
@[go_sem] theorem T77z : tZero Try.prog 77 = some [AV.nil] := by kernel_rfl
@[go_sem] theorem T77ln0 (o) : aLen Try.prog o 77 .nil = some (.int .i64 0) := ln_nil (e := 40) (by kernel_rfl) o
@[go_sem] theorem T77ln1 (o n cs) : aLen Try.prog o 77 (.sl n cs) = some (.int .i64 n) := ln_sl (e := 40) (by kernel_rfl) o n cs
@[go_sem] theorem T77ln2 (o k g off n) : aLen Try.prog o 77 (.ref k g off n) = some (.int .i64 n) := ln_ref (e := 40) (by kernel_rfl) o k g off n
@[go_sem] theorem T77ix1 (n cs i) : aIndexAddr Try.prog 77 (.sl n cs) i = if 0 ≤ i ∧ i < (n : Int) then some (.fptr (cs.drop (i.toNat * 1))) else none := ixs_sl (s := 1) (by kernel_rfl) n cs i
@[go_sem] theorem T77ix2 (k g off n i) : aIndexAddr Try.prog 77 (.ref k g off n) i = if 0 ≤ i ∧ i < (n : Int) then some (.ptr k g (off + i.toNat * 1)) else none := ixs_ref (s := 1) (by kernel_rfl) k g off n i
@[go_sem] theorem T77sl1 (n cs lo hi) : aSlice Try.prog 77 (.sl n cs) lo hi = if 0 ≤ lo.getD 0 ∧ lo.getD 0 ≤ hi.getD n ∧ hi.getD n ≤ n then some (.sl ((hi.getD n).toNat - (lo.getD 0).toNat) ((cs.take ((hi.getD n).toNat * 1)).drop ((lo.getD 0).toNat * 1))) else none := sl_sl (s := 1) (by kernel_rfl) n cs lo hi
@[go_sem] theorem T77sl2 (k g off n lo hi) : aSlice Try.prog 77 (.ref k g off n) lo hi = if 0 ≤ lo.getD 0 ∧ lo.getD 0 ≤ hi.getD n ∧ hi.getD n ≤ n then some (.ref k g (off + (lo.getD 0).toNat * 1) ((hi.getD n).toNat - (lo.getD 0).toNat)) else none := sl_ref (s := 0) (by kernel_rfl) k g off n lo hi
@[go_sem] theorem T77cp (k g off n x o nx) : aCopy Try.prog 77 (.ref k g off n) x ⟨o, nx⟩ = (srcOf o x).bind fun q => (rowIf (o k) g).bind (copyR k off n 1 q.1 q.2 o nx) := cp_ref (by kernel_rfl) k g off n x o nx
@[go_sem] theorem T77ms (tg l c o nx) : aMakeSlice Try.prog tg 77 l c ⟨o, nx⟩ = if 0 ≤ l ∧ l ≤ c ∧ c * 24 ≤ maxB ∧ c ≤ maxB then some (.ref tg tg 0 l.toNat, ⟨upd o tg (.row ⟨40, 1, tg, false, true, rep [AV.nil] l.toNat⟩), nx⟩) else none := ms_eq (e := 40) (s := 0) (b := 24) (z := [AV.nil]) (by kernel_rfl) (by kernel_rfl) (by kernel_rfl) (by kernel_rfl) rfl tg l c o nx
@[go_sem] theorem T77bs (tg n ps o nx) : aBuildSlice Try.prog tg 77 n ps ⟨o, nx⟩ = if n * 1 ≤ 16777216 then (fillA (fun i => some (i * 1, 1)) (rep [AV.nil] n) ps).map (fun cs => (.ref tg tg 0 n, ⟨upd o tg (.row ⟨40, 1, tg, false, true, cs⟩), nx⟩)) else none := bs_eq (e := 40) (s := 0) (z := [AV.nil]) (by kernel_rfl) (by kernel_rfl) (by kernel_rfl) rfl tg n ps o nx
@[go_sem] theorem T77ap (tg x y o nx) : aAppend Try.prog tg 77 77 x y ⟨o, nx⟩ = (srcOf o y).bind fun q => appW tg 40 1 24 x q.1 q.2 o nx := ap_eq (e := 40) (s := 0) (b := 23) (z := [AV.nil]) (by kernel_rfl) (by kernel_rfl) (by kernel_rfl) (by kernel_rfl) rfl (by kernel_rfl) tg x y o nx
@[go_sem] theorem T78s : tSize Try.prog 78 = some 2 := by kernel_rfl
@[go_sem] theorem T78a : tAgg Try.prog 78 = some true := by kernel_rfl
@[go_sem] theorem T78z : tZero Try.prog 78 = some [AV.int .i64 0, AV.nil] := by kernel_rfl
@[go_sem] theorem T78f0p (k g off) : fieldAddrA Try.prog 78 0 (.ptr k g off) = some (.ptr k g (off + 0)) := fa_ptr (s := 0) (ft := 3) (by kernel_rfl) (by kernel_rfl) k g off
@[go_sem] theorem T78f0q (cs) : fieldAddrA Try.prog 78 0 (.fptr cs) = some (.fptr (cs.drop 0)) := fa_fptr (s := 0) (ft := 3) (by kernel_rfl) (by kernel_rfl) cs
@[go_sem] theorem T78f0v (cs) : fieldA Try.prog 78 0 (.agg cs) = takeT Try.prog 3 (cs.drop 0) := fi_agg (by kernel_rfl) cs
@[go_sem] theorem T78f1p (k g off) : fieldAddrA Try.prog 78 1 (.ptr k g off) = some (.ptr k g (off + 1)) := fa_ptr (s := 0) (ft := 77) (by kernel_rfl) (by kernel_rfl) k g off
@[go_sem] theorem T78f1q (cs) : fieldAddrA Try.prog 78 1 (.fptr cs) = some (.fptr (cs.drop 1)) := fa_fptr (s := 0) (ft := 77) (by kernel_rfl) (by kernel_rfl) cs
@[go_sem] theorem T78f1v (cs) : fieldA Try.prog 78 1 (.agg cs) = takeT Try.prog 77 (cs.drop 1) := fi_agg (by kernel_rfl) cs
@[go_sem] theorem T78bd (xs) : aBuild Try.prog 78 xs = (fillA (fun i => ([(0, 1), (1, 1)] : List (Nat × Nat))[i]?) [AV.int .i64 0, AV.nil] xs).map .agg := by kernel_rfl
@[go_sem] theorem T79s : tSize Try.prog 79 = some 2 := by kernel_rfl
@[go_sem] theorem T79a : tAgg Try.prog 79 = some true := by kernel_rfl
@[go_sem] theorem T79z : tZero Try.prog 79 = some [AV.int .i64 0, AV.nil] := by kernel_rfl
@[go_sem] theorem T79f0p (k g off) : fieldAddrA Try.prog 79 0 (.ptr k g off) = some (.ptr k g (off + 0)) := fa_ptr (s := 0) (ft := 3) (by kernel_rfl) (by kernel_rfl) k g off
@[go_sem] theorem T79f0q (cs) : fieldAddrA Try.prog 79 0 (.fptr cs) = some (.fptr (cs.drop 0)) := fa_fptr (s := 0) (ft := 3) (by kernel_rfl) (by kernel_rfl) cs
@[go_sem] theorem T79f0v (cs) : fieldA Try.prog 79 0 (.agg cs) = takeT Try.prog 3 (cs.drop 0) := fi_agg (by kernel_rfl) cs
@[go_sem] theorem T79f1p (k g off) : fieldAddrA Try.prog 79 1 (.ptr k g off) = some (.ptr k g (off + 1)) := fa_ptr (s := 0) (ft := 77) (by kernel_rfl) (by kernel_rfl) k g off
@[go_sem] theorem T79f1q (cs) : fieldAddrA Try.prog 79 1 (.fptr cs) = some (.fptr (cs.drop 1)) := fa_fptr (s := 0) (ft := 77) (by kernel_rfl) (by kernel_rfl) cs
@[go_sem] theorem T79f1v (cs) : fieldA Try.prog 79 1 (.agg cs) = takeT Try.prog 77 (cs.drop 1) := fi_agg (by kernel_rfl) cs
@[go_sem] theorem T79bd (xs) : aBuild Try.prog 79 xs = (fillA (fun i => ([(0, 1), (1, 1)] : List (Nat × Nat))[i]?) [AV.int .i64 0, AV.nil] xs).map .agg := by kernel_rfl
@[go_sem] theorem T81s : tSize Try.prog 81 = some 1 := by kernel_rfl
@[go_sem] theorem T81a : tAgg Try.prog 81 = some false := by kernel_rfl
@[go_sem] theorem T81z : tZero Try.prog 81 = some [AV.nil] := by kernel_rfl
@[go_sem] theorem T81ln0 (o) : aLen Try.prog o 81 .nil = some (.int .i64 0) := ln_nil (e := 4) (by kernel_rfl) o
@[go_sem] theorem T81ln1 (o n cs) : aLen Try.prog o 81 (.sl n cs) = some (.int .i64 n) := ln_sl (e := 4) (by kernel_rfl) o n cs
@[go_sem] theorem T81ln2 (o k g off n) : aLen Try.prog o 81 (.ref k g off n) = some (.int .i64 n) := ln_ref (e := 4) (by kernel_rfl) o k g off n
@[go_sem] theorem T81ix1 (n cs i) : aIndexAddr Try.prog 81 (.sl n cs) i = if 0 ≤ i ∧ i < (n : Int) then some (.fptr (cs.drop (i.toNat * 1))) else none := ixs_sl (s := 1) (by kernel_rfl) n cs i
@[go_sem] theorem T81ix2 (k g off n i) : aIndexAddr Try.prog 81 (.ref k g off n) i = if 0 ≤ i ∧ i < (n : Int) then some (.ptr k g (off + i.toNat * 1)) else none := ixs_ref (s := 1) (by kernel_rfl) k g off n i
@[go_sem] theorem T81sl1 (n cs lo hi) : aSlice Try.prog 81 (.sl n cs) lo hi = if 0 ≤ lo.getD 0 ∧ lo.getD 0 ≤ hi.getD n ∧ hi.getD n ≤ n then some (.sl ((hi.getD n).toNat - (lo.getD 0).toNat) ((cs.take ((hi.getD n).toNat * 1)).drop ((lo.getD 0).toNat * 1))) else none := sl_sl (s := 1) (by kernel_rfl) n cs lo hi
@[go_sem] theorem T81sl2 (k g off n lo hi) : aSlice Try.prog 81 (.ref k g off n) lo hi = if 0 ≤ lo.getD 0 ∧ lo.getD 0 ≤ hi.getD n ∧ hi.getD n ≤ n then some (.ref k g (off + (lo.getD 0).toNat * 1) ((hi.getD n).toNat - (lo.getD 0).toNat)) else none := sl_ref (s := 0) (by kernel_rfl) k g off n lo hi
@[go_sem] theorem T81cp (k g off n x o nx) : aCopy Try.prog 81 (.ref k g off n) x ⟨o, nx⟩ = (srcOf o x).bind fun q => (rowIf (o k) g).bind (copyR k off n 1 q.1 q.2 o nx) := cp_ref (by kernel_rfl) k g off n x o nx
@[go_sem] theorem T81ms (tg l c o nx) : aMakeSlice Try.prog tg 81 l c ⟨o, nx⟩ = if 0 ≤ l ∧ l ≤ c ∧ c * 1 ≤ maxB ∧ c ≤ maxB then some (.ref tg tg 0 l.toNat, ⟨upd o tg (.row ⟨4, 1, tg, false, true, rep [AV.bool false] l.toNat⟩), nx⟩) else none := ms_eq (e := 4) (s := 0) (b := 1) (z := [AV.bool false]) (by kernel_rfl) (by kernel_rfl) (by kernel_rfl) (by kernel_rfl) rfl tg l c o nx
@[go_sem] theorem T81bs (tg n ps o nx) : aBuildSlice Try.prog tg 81 n ps ⟨o, nx⟩ = if n * 1 ≤ 16777216 then (fillA (fun i => some (i * 1, 1)) (rep [AV.bool false] n) ps).map (fun cs => (.ref tg tg 0 n, ⟨upd o tg (.row ⟨4, 1, tg, false, true, cs⟩), nx⟩)) else none := bs_eq (e := 4) (s := 0) (z := [AV.bool false]) (by kernel_rfl) (by kernel_rfl) (by kernel_rfl) rfl tg n ps o nx
@[go_sem] theorem T81ap (tg x y o nx) : aAppend Try.prog tg 81 81 x y ⟨o, nx⟩ = (srcOf o y).bind fun q => appW tg 4 1 1 x q.1 q.2 o nx := ap_eq (e := 4) (s := 0) (b := 0) (z := [AV.bool false]) (by kernel_rfl) (by kernel_rfl) (by kernel_rfl) (by kernel_rfl) rfl (by kernel_rfl) tg x y o nx
@[go_sem] theorem T82s : tSize Try.prog 82 = some 1 := by kernel_rfl
@[go_sem] theorem T82a : tAgg Try.prog 82 = some false := by kernel_rfl
@[go_sem] theorem T82z : tZero Try.prog 82 = some [AV.nil] := by kernel_rfl
@[go_sem] theorem T82ln0 (o) : aLen Try.prog o 82 .nil = some (.int .i64 0) := ln_nil (e := 4) (by kernel_rfl) o
@[go_sem] theorem T82ln1 (o n cs) : aLen Try.prog o 82 (.sl n cs) = some (.int .i64 n) := ln_sl (e := 4) (by kernel_rfl) o n cs
@[go_sem] theorem T82ln2 (o k g off n) : aLen Try.prog o 82 (.ref k g off n) = some (.int .i64 n) := ln_ref (e := 4) (by kernel_rfl) o k g off n
@[go_sem] theorem T82ix1 (n cs i) : aIndexAddr Try.prog 82 (.sl n cs) i = if 0 ≤ i ∧ i < (n : Int) then some (.fptr (cs.drop (i.toNat * 1))) else none := ixs_sl (s := 1) (by kernel_rfl) n cs i
@[go_sem] theorem T82ix2 (k g off n i) : aIndexAddr Try.prog 82 (.ref k g off n) i = if 0 ≤ i ∧ i < (n : Int) then some (.ptr k g (off + i.toNat * 1)) else none := ixs_ref (s := 1) (by kernel_rfl) k g off n i
@[go_sem] theorem T82sl1 (n cs lo hi) : aSlice Try.prog 82 (.sl n cs) lo hi = if 0 ≤ lo.getD 0 ∧ lo.getD 0 ≤ hi.getD n ∧ hi.getD n ≤ n then some (.sl ((hi.getD n).toNat - (lo.getD 0).toNat) ((cs.take ((hi.getD n).toNat * 1)).drop ((lo.getD 0).toNat * 1))) else none := sl_sl (s := 1) (by kernel_rfl) n cs lo hi
@[go_sem] theorem T82sl2 (k g off n lo hi) : aSlice Try.prog 82 (.ref k g off n) lo hi = if 0 ≤ lo.getD 0 ∧ lo.getD 0 ≤ hi.getD n ∧ hi.getD n ≤ n then some (.ref k g (off + (lo.getD 0).toNat * 1) ((hi.getD n).toNat - (lo.getD 0).toNat)) else none := sl_ref (s := 0) (by kernel_rfl) k g off n lo hi
@[go_sem] theorem T82cp (k g off n x o nx) : aCopy Try.prog 82 (.ref k g off n) x ⟨o, nx⟩ = (srcOf o x).bind fun q => (rowIf (o k) g).bind (copyR k off n 1 q.1 q.2 o nx) := cp_ref (by kernel_rfl) k g off n x o nx
@[go_sem] theorem T82ms (tg l c o nx) : aMakeSlice Try.prog tg 82 l c ⟨o, nx⟩ = if 0 ≤ l ∧ l ≤ c ∧ c * 1 ≤ maxB ∧ c ≤ maxB then some (.ref tg tg 0 l.toNat, ⟨upd o tg (.row ⟨4, 1, tg, false, true, rep [AV.bool false] l.toNat⟩), nx⟩) else none := ms_eq (e := 4) (s := 0) (b := 1) (z := [AV.bool false]) (by kernel_rfl) (by kernel_rfl) (by kernel_rfl) (by kernel_rfl) rfl tg l c o nx
@[go_sem] theorem T82bs (tg n ps o nx) : aBuildSlice Try.prog tg 82 n ps ⟨o, nx⟩ = if n * 1 ≤ 16777216 then (fillA (fun i => some (i * 1, 1)) (rep [AV.bool false] n) ps).map (fun cs => (.ref tg tg 0 n, ⟨upd o tg (.row ⟨4, 1, tg, false, true, cs⟩), nx⟩)) else none := bs_eq (e := 4) (s := 0) (z := [AV.bool false]) (by kernel_rfl) (by kernel_rfl) (by kernel_rfl) rfl tg n ps o nx
@[go_sem] theorem T82ap (tg x y o nx) : aAppend Try.prog tg 82 82 x y ⟨o, nx⟩ = (srcOf o y).bind fun q => appW tg 4 1 1 x q.1 q.2 o nx := ap_eq (e := 4) (s := 0) (b := 0) (z := [AV.bool false]) (by kernel_rfl) (by kernel_rfl) (by kernel_rfl) (by kernel_rfl) rfl (by kernel_rfl) tg x y o nx
@[go_sem] theorem T91s : tSize Try.prog 91 = some 1 := by kernel_rfl
@[go_sem] theorem T91a : tAgg Try.prog 91 = some false := by kernel_rfl
@[go_sem] theorem T91z : tZero Try.prog 91 = some [AV.nil] := by kernel_rfl
@[go_sem] theorem T91ln0 (o) : aLen Try.prog o 91 .nil = some (.int .i64 0) := ln_nil (e := 65) (by kernel_rfl) o
@[go_sem] theorem T91ln1 (o n cs) : aLen Try.prog o 91 (.sl n cs) = some (.int .i64 n) := ln_sl (e := 65) (by kernel_rfl) o n cs
@[go_sem] theorem T91ln2 (o k g off n) : aLen Try.prog o 91 (.ref k g off n) = some (.int .i64 n) := ln_ref (e := 65) (by kernel_rfl) o k g off n
@[go_sem] theorem T91ix1 (n cs i) : aIndexAddr Try.prog 91 (.sl n cs) i = if 0 ≤ i ∧ i < (n : Int) then some (.fptr (cs.drop (i.toNat * 2))) else none := ixs_sl (s := 2) (by kernel_rfl) n cs i
@[go_sem] theorem T91ix2 (k g off n i) : aIndexAddr Try.prog 91 (.ref k g off n) i = if 0 ≤ i ∧ i < (n : Int) then some (.ptr k g (off + i.toNat * 2)) else none := ixs_ref (s := 2) (by kernel_rfl) k g off n i
@[go_sem] theorem T91sl1 (n cs lo hi) : aSlice Try.prog 91 (.sl n cs) lo hi = if 0 ≤ lo.getD 0 ∧ lo.getD 0 ≤ hi.getD n ∧ hi.getD n ≤ n then some (.sl ((hi.getD n).toNat - (lo.getD 0).toNat) ((cs.take ((hi.getD n).toNat * 2)).drop ((lo.getD 0).toNat * 2))) else none := sl_sl (s := 2) (by kernel_rfl) n cs lo hi
@[go_sem] theorem T91sl2 (k g off n lo hi) : aSlice Try.prog 91 (.ref k g off n) lo hi = if 0 ≤ lo.getD 0 ∧ lo.getD 0 ≤ hi.getD n ∧ hi.getD n ≤ n then some (.ref k g (off + (lo.getD 0).toNat * 2) ((hi.getD n).toNat - (lo.getD 0).toNat)) else none := sl_ref (s := 1) (by kernel_rfl) k g off n lo hi
@[go_sem] theorem T91cp (k g off n x o nx) : aCopy Try.prog 91 (.ref k g off n) x ⟨o, nx⟩ = (srcOf o x).bind fun q => (rowIf (o k) g).bind (copyR k off n 2 q.1 q.2 o nx) := cp_ref (by kernel_rfl) k g off n x o nx
@[go_sem] theorem T91ms (tg l c o nx) : aMakeSlice Try.prog tg 91 l c ⟨o, nx⟩ = if 0 ≤ l ∧ l ≤ c ∧ c * 16 ≤ maxB ∧ c ≤ maxB then some (.ref tg tg 0 l.toNat, ⟨upd o tg (.row ⟨65, 2, tg, false, true, rep [AV.int .i64 0, AV.int .i64 0] l.toNat⟩), nx⟩) else none := ms_eq (e := 65) (s := 1) (b := 16) (z := [AV.int .i64 0, AV.int .i64 0]) (by kernel_rfl) (by kernel_rfl) (by kernel_rfl) (by kernel_rfl) rfl tg l c o nx
@[go_sem] theorem T91bs (tg n ps o nx) : aBuildSlice Try.prog tg 91 n ps ⟨o, nx⟩ = if n * 2 ≤ 16777216 then (fillA (fun i => some (i * 2, 2)) (rep [AV.int .i64 0, AV.int .i64 0] n) ps).map (fun cs => (.ref tg tg 0 n, ⟨upd o tg (.row ⟨65, 2, tg, false, true, cs⟩), nx⟩)) else none := bs_eq (e := 65) (s := 1) (z := [AV.int .i64 0, AV.int .i64 0]) (by kernel_rfl) (by kernel_rfl) (by kernel_rfl) rfl tg n ps o nx
@[go_sem] theorem T91ap (tg x y o nx) : aAppend Try.prog tg 91 91 x y ⟨o, nx⟩ = (srcOf o y).bind fun q => appW tg 65 2 16 x q.1 q.2 o nx := ap_eq (e := 65) (s := 1) (b := 15) (z := [AV.int .i64 0, AV.int .i64 0]) (by kernel_rfl) (by kernel_rfl) (by kernel_rfl) (by kernel_rfl) rfl (by kernel_rfl) tg x y o nx
@[go_sem] theorem T96s : tSize Try.prog 96 = some 1 := by kernel_rfl
@[go_sem] theorem T96a : tAgg Try.prog 96 = some false := by kernel_rfl
@[go_sem] theorem T96z : tZero Try.prog 96 = some [AV.int .u64 0] := by kernel_rfl
@[go_sem] theorem T96u : Try.prog.underlying 96 = some (.int .u64) := by kernel_rfl
@[go_sem] theorem T102s : tSize Try.prog 102 = some 1 := by kernel_rfl
@[go_sem] theorem T102a : tAgg Try.prog 102 = some false := by kernel_rfl
@[go_sem] theorem T103s : tSize Try.prog 103 = some 4 := by kernel_rfl
@[go_sem] theorem T103a : tAgg Try.prog 103 = some true := by kernel_rfl
@[go_sem] theorem T103z : tZero Try.prog 103 = some [AV.str [], AV.int .i64 0, AV.int .i64 0, AV.int .i64 0] := by kernel_rfl
@[go_sem] theorem T103f0p (k g off) : fieldAddrA Try.prog 103 0 (.ptr k g off) = some (.ptr k g (off + 0)) := fa_ptr (s := 0) (ft := 9) (by kernel_rfl) (by kernel_rfl) k g off
@[go_sem] theorem T103f0q (cs) : fieldAddrA Try.prog 103 0 (.fptr cs) = some (.fptr (cs.drop 0)) := fa_fptr (s := 0) (ft := 9) (by kernel_rfl) (by kernel_rfl) cs
@[go_sem] theorem T103f0v (cs) : fieldA Try.prog 103 0 (.agg cs) = takeT Try.prog 9 (cs.drop 0) := fi_agg (by kernel_rfl) cs
@[go_sem] theorem T103f1p (k g off) : fieldAddrA Try.prog 103 1 (.ptr k g off) = some (.ptr k g (off + 1)) := fa_ptr (s := 0) (ft := 3) (by kernel_rfl) (by kernel_rfl) k g off
@[go_sem] theorem T103f1q (cs) : fieldAddrA Try.prog 103 1 (.fptr cs) = some (.fptr (cs.drop 1)) := fa_fptr (s := 0) (ft := 3) (by kernel_rfl) (by kernel_rfl) cs
@[go_sem] theorem T103f1v (cs) : fieldA Try.prog 103 1 (.agg cs) = takeT Try.prog 3 (cs.drop 1) := fi_agg (by kernel_rfl) cs
@[go_sem] theorem T103f2p (k g off) : fieldAddrA Try.prog 103 2 (.ptr k g off) = some (.ptr k g (off + 2)) := fa_ptr (s := 0) (ft := 3) (by kernel_rfl) (by kernel_rfl) k g off
@[go_sem] theorem T103f2q (cs) : fieldAddrA Try.prog 103 2 (.fptr cs) = some (.fptr (cs.drop 2)) := fa_fptr (s := 0) (ft := 3) (by kernel_rfl) (by kernel_rfl) cs
@[go_sem] theorem T103f2v (cs) : fieldA Try.prog 103 2 (.agg cs) = takeT Try.prog 3 (cs.drop 2) := fi_agg (by kernel_rfl) cs
@[go_sem] theorem T103f3p (k g off) : fieldAddrA Try.prog 103 3 (.ptr k g off) = some (.ptr k g (off + 3)) := fa_ptr (s := 0) (ft := 3) (by kernel_rfl) (by kernel_rfl) k g off
@[go_sem] theorem T103f3q (cs) : fieldAddrA Try.prog 103 3 (.fptr cs) = some (.fptr (cs.drop 3)) := fa_fptr (s := 0) (ft := 3) (by kernel_rfl) (by kernel_rfl) cs
@[go_sem] theorem T103f3v (cs) : fieldA Try.prog 103 3 (.agg cs) = takeT Try.prog 3 (cs.drop 3) := fi_agg (by kernel_rfl) cs
@[go_sem] theorem T103bd (xs) : aBuild Try.prog 103 xs = (fillA (fun i => ([(0, 1), (1, 1), (2, 1), (3, 1)] : List (Nat × Nat))[i]?) [AV.str [], AV.int .i64 0, AV.int .i64 0, AV.int .i64 0] xs).map .agg := by kernel_rfl
@[go_sem] theorem T103lf : eqLeaves Try.prog 103 = some [Leaf.str, Leaf.int, Leaf.int, Leaf.int] := by kernel_rfl
@[go_sem] theorem T104s : tSize Try.prog 104 = some 4 := by kernel_rfl
@[go_sem] theorem T104a : tAgg Try.prog 104 = some true := by kernel_rfl
@[go_sem] theorem T104z : tZero Try.prog 104 = some [AV.str [], AV.int .i64 0, AV.int .i64 0, AV.int .i64 0] := by kernel_rfl
@[go_sem] theorem T104f0p (k g off) : fieldAddrA Try.prog 104 0 (.ptr k g off) = some (.ptr k g (off + 0)) := fa_ptr (s := 0) (ft := 9) (by kernel_rfl) (by kernel_rfl) k g off
@[go_sem] theorem T104f0q (cs) : fieldAddrA Try.prog 104 0 (.fptr cs) = some (.fptr (cs.drop 0)) := fa_fptr (s := 0) (ft := 9) (by kernel_rfl) (by kernel_rfl) cs
@[go_sem] theorem T104f0v (cs) : fieldA Try.prog 104 0 (.agg cs) = takeT Try.prog 9 (cs.drop 0) := fi_agg (by kernel_rfl) cs
@[go_sem] theorem T104f1p (k g off) : fieldAddrA Try.prog 104 1 (.ptr k g off) = some (.ptr k g (off + 1)) := fa_ptr (s := 0) (ft := 3) (by kernel_rfl) (by kernel_rfl) k g off
@[go_sem] theorem T104f1q (cs) : fieldAddrA Try.prog 104 1 (.fptr cs) = some (.fptr (cs.drop 1)) := fa_fptr (s := 0) (ft := 3) (by kernel_rfl) (by kernel_rfl) cs
@[go_sem] theorem T104f1v (cs) : fieldA Try.prog 104 1 (.agg cs) = takeT Try.prog 3 (cs.drop 1) := fi_agg (by kernel_rfl) cs
@[go_sem] theorem T104f2p (k g off) : fieldAddrA Try.prog 104 2 (.ptr k g off) = some (.ptr k g (off + 2)) := fa_ptr (s := 0) (ft := 3) (by kernel_rfl) (by kernel_rfl) k g off
@[go_sem] theorem T104f2q (cs) : fieldAddrA Try.prog 104 2 (.fptr cs) = some (.fptr (cs.drop 2)) := fa_fptr (s := 0) (ft := 3) (by kernel_rfl) (by kernel_rfl) cs
@[go_sem] theorem T104f2v (cs) : fieldA Try.prog 104 2 (.agg cs) = takeT Try.prog 3 (cs.drop 2) := fi_agg (by kernel_rfl) cs
@[go_sem] theorem T104f3p (k g off) : fieldAddrA Try.prog 104 3 (.ptr k g off) = some (.ptr k g (off + 3)) := fa_ptr (s := 0) (ft := 3) (by kernel_rfl) (by kernel_rfl) k g off
@[go_sem] theorem T104f3q (cs) : fieldAddrA Try.prog 104 3 (.fptr cs) = some (.fptr (cs.drop 3)) := fa_fptr (s := 0) (ft := 3) (by kernel_rfl) (by kernel_rfl) cs
@[go_sem] theorem T104f3v (cs) : fieldA Try.prog 104 3 (.agg cs) = takeT Try.prog 3 (cs.drop 3) := fi_agg (by kernel_rfl) cs
@[go_sem] theorem T104bd (xs) : aBuild Try.prog 104 xs = (fillA (fun i => ([(0, 1), (1, 1), (2, 1), (3, 1)] : List (Nat × Nat))[i]?) [AV.str [], AV.int .i64 0, AV.int .i64 0, AV.int .i64 0] xs).map .agg := by kernel_rfl
@[go_sem] theorem T104lf : eqLeaves Try.prog 104 = some [Leaf.str, Leaf.int, Leaf.int, Leaf.int] := by kernel_rfl
@[go_sem] theorem T109s : tSize Try.prog 109 = some 2 := by kernel_rfl
@[go_sem] theorem T109a : tAgg Try.prog 109 = some true := by kernel_rfl
@[go_sem] theorem T109z : tZero Try.prog 109 = some [AV.int .u8 0, AV.int .u8 0] := by kernel_rfl
@[go_sem] theorem T109ln (o x) : aLen Try.prog o 109 x = some (.int .i64 2) := ln_arr (e := 5) (by kernel_rfl) o x
@[go_sem] theorem T109ix1 (cs i) : aIndexAddr Try.prog 109 (.fptr cs) i = if 0 ≤ i ∧ i < 2 then some (.fptr (cs.drop (i.toNat * 1))) else none := ixa_fptr (n := 2) (e := 5) (s := 1) (by kernel_rfl) (by kernel_rfl) cs i
@[go_sem] theorem T109ix2 (k g off i) : aIndexAddr Try.prog 109 (.ptr k g off) i = if 0 ≤ i ∧ i < 2 then some (.ptr k g (off + i.toNat * 1)) else none := ixa_ptr (n := 2) (e := 5) (s := 1) (by kernel_rfl) (by kernel_rfl) k g off i
@[go_sem] theorem T109iv (cs i) : aIndex Try.prog 109 (.agg cs) i = if 0 ≤ i ∧ i < 2 then takeT Try.prog 5 (cs.drop (i.toNat * 1)) else none := ixv_agg (n := 2) (e := 5) (s := 1) (by kernel_rfl) (by kernel_rfl) cs i
@[go_sem] theorem T109bd (xs) : aBuild Try.prog 109 xs = (fillA (fun i => some (i * 1, 1)) [AV.int .u8 0, AV.int .u8 0] xs).map .agg := bd_array (n := 2) (e := 5) (by kernel_rfl) (by kernel_rfl) (by kernel_rfl) xs
@[go_sem] theorem T109lf : eqLeaves Try.prog 109 = some [Leaf.int, Leaf.int] := by kernel_rfl
@[go_sem] theorem T111s : tSize Try.prog 111 = some 4 := by kernel_rfl
@[go_sem] theorem T111a : tAgg Try.prog 111 = some true := by kernel_rfl
@[go_sem] theorem T111f0p (k g off) : fieldAddrA Try.prog 111 0 (.ptr k g off) = some (.ptr k g (off + 0)) := fa_ptr (s := 0) (ft := 17) (by kernel_rfl) (by kernel_rfl) k g off
@[go_sem] theorem T111f0q (cs) : fieldAddrA Try.prog 111 0 (.fptr cs) = some (.fptr (cs.drop 0)) := fa_fptr (s := 0) (ft := 17) (by kernel_rfl) (by kernel_rfl) cs
@[go_sem] theorem T111f0v (cs) : fieldA Try.prog 111 0 (.agg cs) = takeT Try.prog 17 (cs.drop 0) := fi_agg (by kernel_rfl) cs
@[go_sem] theorem T111f1p (k g off) : fieldAddrA Try.prog 111 1 (.ptr k g off) = some (.ptr k g (off + 1)) := fa_ptr (s := 0) (ft := 17) (by kernel_rfl) (by kernel_rfl) k g off
@[go_sem] theorem T111f1q (cs) : fieldAddrA Try.prog 111 1 (.fptr cs) = some (.fptr (cs.drop 1)) := fa_fptr (s := 0) (ft := 17) (by kernel_rfl) (by kernel_rfl) cs
@[go_sem] theorem T111f1v (cs) : fieldA Try.prog 111 1 (.agg cs) = takeT Try.prog 17 (cs.drop 1) := fi_agg (by kernel_rfl) cs
@[go_sem] theorem T111f2p (k g off) : fieldAddrA Try.prog 111 2 (.ptr k g off) = some (.ptr k g (off + 2)) := fa_ptr (s := 0) (ft := 17) (by kernel_rfl) (by kernel_rfl) k g off
@[go_sem] theorem T111f2q (cs) : fieldAddrA Try.prog 111 2 (.fptr cs) = some (.fptr (cs.drop 2)) := fa_fptr (s := 0) (ft := 17) (by kernel_rfl) (by kernel_rfl) cs
@[go_sem] theorem T111f2v (cs) : fieldA Try.prog 111 2 (.agg cs) = takeT Try.prog 17 (cs.drop 2) := fi_agg (by kernel_rfl) cs
@[go_sem] theorem T111f3p (k g off) : fieldAddrA Try.prog 111 3 (.ptr k g off) = some (.ptr k g (off + 3)) := fa_ptr (s := 0) (ft := 9) (by kernel_rfl) (by kernel_rfl) k g off
@[go_sem] theorem T111f3q (cs) : fieldAddrA Try.prog 111 3 (.fptr cs) = some (.fptr (cs.drop 3)) := fa_fptr (s := 0) (ft := 9) (by kernel_rfl) (by kernel_rfl) cs
@[go_sem] theorem T111f3v (cs) : fieldA Try.prog 111 3 (.agg cs) = takeT Try.prog 9 (cs.drop 3) := fi_agg (by kernel_rfl) cs
@[go_sem] theorem T112s : tSize Try.prog 112 = some 4 := by kernel_rfl
@[go_sem] theorem T112a : tAgg Try.prog 112 = some true := by kernel_rfl
@[go_sem] theorem T112f0p (k g off) : fieldAddrA Try.prog 112 0 (.ptr k g off) = some (.ptr k g (off + 0)) := fa_ptr (s := 0) (ft := 17) (by kernel_rfl) (by kernel_rfl) k g off
@[go_sem] theorem T112f0q (cs) : fieldAddrA Try.prog 112 0 (.fptr cs) = some (.fptr (cs.drop 0)) := fa_fptr (s := 0) (ft := 17) (by kernel_rfl) (by kernel_rfl) cs
@[go_sem] theorem T112f0v (cs) : fieldA Try.prog 112 0 (.agg cs) = takeT Try.prog 17 (cs.drop 0) := fi_agg (by kernel_rfl) cs
@[go_sem] theorem T112f1p (k g off) : fieldAddrA Try.prog 112 1 (.ptr k g off) = some (.ptr k g (off + 1)) := fa_ptr (s := 0) (ft := 17) (by kernel_rfl) (by kernel_rfl) k g off
@[go_sem] theorem T112f1q (cs) : fieldAddrA Try.prog 112 1 (.fptr cs) = some (.fptr (cs.drop 1)) := fa_fptr (s := 0) (ft := 17) (by kernel_rfl) (by kernel_rfl) cs
@[go_sem] theorem T112f1v (cs) : fieldA Try.prog 112 1 (.agg cs) = takeT Try.prog 17 (cs.drop 1) := fi_agg (by kernel_rfl) cs
@[go_sem] theorem T112f2p (k g off) : fieldAddrA Try.prog 112 2 (.ptr k g off) = some (.ptr k g (off + 2)) := fa_ptr (s := 0) (ft := 17) (by kernel_rfl) (by kernel_rfl) k g off
@[go_sem] theorem T112f2q (cs) : fieldAddrA Try.prog 112 2 (.fptr cs) = some (.fptr (cs.drop 2)) := fa_fptr (s := 0) (ft := 17) (by kernel_rfl) (by kernel_rfl) cs
@[go_sem] theorem T112f2v (cs) : fieldA Try.prog 112 2 (.agg cs) = takeT Try.prog 17 (cs.drop 2) := fi_agg (by kernel_rfl) cs
@[go_sem] theorem T112f3p (k g off) : fieldAddrA Try.prog 112 3 (.ptr k g off) = some (.ptr k g (off + 3)) := fa_ptr (s := 0) (ft := 9) (by kernel_rfl) (by kernel_rfl) k g off
@[go_sem] theorem T112f3q (cs) : fieldAddrA Try.prog 112 3 (.fptr cs) = some (.fptr (cs.drop 3)) := fa_fptr (s := 0) (ft := 9) (by kernel_rfl) (by kernel_rfl) cs
@[go_sem] theorem T112f3v (cs) : fieldA Try.prog 112 3 (.agg cs) = takeT Try.prog 9 (cs.drop 3) := fi_agg (by kernel_rfl) cs
@[go_sem] theorem T113s : tSize Try.prog 113 = some 0 := by kernel_rfl
@[go_sem] theorem T113a : tAgg Try.prog 113 = some true := by kernel_rfl
@[go_sem] theorem T113z : tZero Try.prog 113 = some [] := by kernel_rfl
@[go_sem] theorem T113ln (o x) : aLen Try.prog o 113 x = some (.int .i64 0) := ln_arr (e := 16) (by kernel_rfl) o x
@[go_sem] theorem T113ix1 (cs i) : aIndexAddr Try.prog 113 (.fptr cs) i = if 0 ≤ i ∧ i < 0 then some (.fptr (cs.drop (i.toNat * 1))) else none := ixa_fptr (n := 0) (e := 16) (s := 1) (by kernel_rfl) (by kernel_rfl) cs i
@[go_sem] theorem T113ix2 (k g off i) : aIndexAddr Try.prog 113 (.ptr k g off) i = if 0 ≤ i ∧ i < 0 then some (.ptr k g (off + i.toNat * 1)) else none := ixa_ptr (n := 0) (e := 16) (s := 1) (by kernel_rfl) (by kernel_rfl) k g off i
@[go_sem] theorem T113iv (cs i) : aIndex Try.prog 113 (.agg cs) i = if 0 ≤ i ∧ i < 0 then takeT Try.prog 16 (cs.drop (i.toNat * 1)) else none := ixv_agg (n := 0) (e := 16) (s := 1) (by kernel_rfl) (by kernel_rfl) cs i
@[go_sem] theorem T113bd (xs) : aBuild Try.prog 113 xs = (fillA (fun i => some (i * 1, 1)) [] xs).map .agg := bd_array (n := 0) (e := 16) (by kernel_rfl) (by kernel_rfl) (by kernel_rfl) xs
@[go_sem] theorem T114s : tSize Try.prog 114 = some 0 := by kernel_rfl
@[go_sem] theorem T114a : tAgg Try.prog 114 = some true := by kernel_rfl
@[go_sem] theorem T114z : tZero Try.prog 114 = some [] := by kernel_rfl
@[go_sem] theorem T114bd (xs) : aBuild Try.prog 114 xs = (fillA (fun i => ([(0, 0)] : List (Nat × Nat))[i]?) [] xs).map .agg := by kernel_rfl
@[go_sem] theorem T115s : tSize Try.prog 115 = some 0 := by kernel_rfl
@[go_sem] theorem T115a : tAgg Try.prog 115 = some true := by kernel_rfl
@[go_sem] theorem T115z : tZero Try.prog 115 = some [] := by kernel_rfl
@[go_sem] theorem T115bd (xs) : aBuild Try.prog 115 xs = (fillA (fun i => ([(0, 0)] : List (Nat × Nat))[i]?) [] xs).map .agg := by kernel_rfl
@[go_sem] theorem T116s : tSize Try.prog 116 = some 1 := by kernel_rfl
@[go_sem] theorem T116a : tAgg Try.prog 116 = some false := by kernel_rfl
@[go_sem] theorem T116z : tZero Try.prog 116 = some [AV.int .u32 0] := by kernel_rfl
@[go_sem] theorem T116u : Try.prog.underlying 116 = some (.int .u32) := by kernel_rfl
@[go_sem] theorem T117s : tSize Try.prog 117 = some 1 := by kernel_rfl
@[go_sem] theorem T117a : tAgg Try.prog 117 = some false := by kernel_rfl
@[go_sem] theorem T117z : tZero Try.prog 117 = some [AV.int .u8 0] := by kernel_rfl
@[go_sem] theorem T117u : Try.prog.underlying 117 = some (.int .u8) := by kernel_rfl
@[go_sem] theorem T118s : tSize Try.prog 118 = some 1 := by kernel_rfl
@[go_sem] theorem T118a : tAgg Try.prog 118 = some false := by kernel_rfl
@[go_sem] theorem T118z : tZero Try.prog 118 = some [AV.int .u8 0] := by kernel_rfl
@[go_sem] theorem T118u : Try.prog.underlying 118 = some (.int .u8) := by kernel_rfl
@[go_sem] theorem T120s : tSize Try.prog 120 = some 1 := by kernel_rfl
@[go_sem] theorem T120a : tAgg Try.prog 120 = some false := by kernel_rfl
@[go_sem] theorem T121s : tSize Try.prog 121 = some 1 := by kernel_rfl
@[go_sem] theorem T121a : tAgg Try.prog 121 = some false := by kernel_rfl
@[go_sem] theorem T121z : tZero Try.prog 121 = some [AV.int .i32 0] := by kernel_rfl
@[go_sem] theorem T121u : Try.prog.underlying 121 = some (.int .i32) := by kernel_rfl
@[go_sem] theorem T122s : tSize Try.prog 122 = some 1 := by kernel_rfl
@[go_sem] theorem T122a : tAgg Try.prog 122 = some false := by kernel_rfl
@[go_sem] theorem T122z : tZero Try.prog 122 = some [AV.int .i32 0] := by kernel_rfl
@[go_sem] theorem T122u : Try.prog.underlying 122 = some (.int .i32) := by kernel_rfl
@[go_sem] theorem T123s : tSize Try.prog 123 = some 11 := by kernel_rfl
@[go_sem] theorem T123a : tAgg Try.prog 123 = some true := by kernel_rfl
@[go_sem] theorem T123f0p (k g off) : fieldAddrA Try.prog 123 0 (.ptr k g off) = some (.ptr k g (off + 0)) := fa_ptr (s := 0) (ft := 12) (by kernel_rfl) (by kernel_rfl) k g off
@[go_sem] theorem T123f0q (cs) : fieldAddrA Try.prog 123 0 (.fptr cs) = some (.fptr (cs.drop 0)) := fa_fptr (s := 0) (ft := 12) (by kernel_rfl) (by kernel_rfl) cs
@[go_sem] theorem T123f0v (cs) : fieldA Try.prog 123 0 (.agg cs) = takeT Try.prog 12 (cs.drop 0) := fi_agg (by kernel_rfl) cs
@[go_sem] theorem T123f1p (k g off) : fieldAddrA Try.prog 123 1 (.ptr k g off) = some (.ptr k g (off + 1)) := fa_ptr (s := 0) (ft := 12) (by kernel_rfl) (by kernel_rfl) k g off
@[go_sem] theorem T123f1q (cs) : fieldAddrA Try.prog 123 1 (.fptr cs) = some (.fptr (cs.drop 1)) := fa_fptr (s := 0) (ft := 12) (by kernel_rfl) (by kernel_rfl) cs
@[go_sem] theorem T123f1v (cs) : fieldA Try.prog 123 1 (.agg cs) = takeT Try.prog 12 (cs.drop 1) := fi_agg (by kernel_rfl) cs
@[go_sem] theorem T123f2p (k g off) : fieldAddrA Try.prog 123 2 (.ptr k g off) = some (.ptr k g (off + 2)) := fa_ptr (s := 0) (ft := 116) (by kernel_rfl) (by kernel_rfl) k g off
@[go_sem] theorem T123f2q (cs) : fieldAddrA Try.prog 123 2 (.fptr cs) = some (.fptr (cs.drop 2)) := fa_fptr (s := 0) (ft := 116) (by kernel_rfl) (by kernel_rfl) cs
@[go_sem] theorem T123f2v (cs) : fieldA Try.prog 123 2 (.agg cs) = takeT Try.prog 116 (cs.drop 2) := fi_agg (by kernel_rfl) cs
@[go_sem] theorem T123f3p (k g off) : fieldAddrA Try.prog 123 3 (.ptr k g off) = some (.ptr k g (off + 3)) := fa_ptr (s := 0) (ft := 117) (by kernel_rfl) (by kernel_rfl) k g off
@[go_sem] theorem T123f3q (cs) : fieldAddrA Try.prog 123 3 (.fptr cs) = some (.fptr (cs.drop 3)) := fa_fptr (s := 0) (ft := 117) (by kernel_rfl) (by kernel_rfl) cs
@[go_sem] theorem T123f3v (cs) : fieldA Try.prog 123 3 (.agg cs) = takeT Try.prog 117 (cs.drop 3) := fi_agg (by kernel_rfl) cs
@[go_sem] theorem T123f4p (k g off) : fieldAddrA Try.prog 123 4 (.ptr k g off) = some (.ptr k g (off + 4)) := fa_ptr (s := 0) (ft := 5) (by kernel_rfl) (by kernel_rfl) k g off
@[go_sem] theorem T123f4q (cs) : fieldAddrA Try.prog 123 4 (.fptr cs) = some (.fptr (cs.drop 4)) := fa_fptr (s := 0) (ft := 5) (by kernel_rfl) (by kernel_rfl) cs
@[go_sem] theorem T123f4v (cs) : fieldA Try.prog 123 4 (.agg cs) = takeT Try.prog 5 (cs.drop 4) := fi_agg (by kernel_rfl) cs
@[go_sem] theorem T123f5p (k g off) : fieldAddrA Try.prog 123 5 (.ptr k g off) = some (.ptr k g (off + 5)) := fa_ptr (s := 0) (ft := 5) (by kernel_rfl) (by kernel_rfl) k g off
@[go_sem] theorem T123f5q (cs) : fieldAddrA Try.prog 123 5 (.fptr cs) = some (.fptr (cs.drop 5)) := fa_fptr (s := 0) (ft := 5) (by kernel_rfl) (by kernel_rfl) cs
@[go_sem] theorem T123f5v (cs) : fieldA Try.prog 123 5 (.agg cs) = takeT Try.prog 5 (cs.drop 5) := fi_agg (by kernel_rfl) cs
@[go_sem] theorem T123f6p (k g off) : fieldAddrA Try.prog 123 6 (.ptr k g off) = some (.ptr k g (off + 6)) := fa_ptr (s := 0) (ft := 118) (by kernel_rfl) (by kernel_rfl) k g off
@[go_sem] theorem T123f6q (cs) : fieldAddrA Try.prog 123 6 (.fptr cs) = some (.fptr (cs.drop 6)) := fa_fptr (s := 0) (ft := 118) (by kernel_rfl) (by kernel_rfl) cs
@[go_sem] theorem T123f6v (cs) : fieldA Try.prog 123 6 (.agg cs) = takeT Try.prog 118 (cs.drop 6) := fi_agg (by kernel_rfl) cs
@[go_sem] theorem T123f7p (k g off) : fieldAddrA Try.prog 123 7 (.ptr k g off) = some (.ptr k g (off + 7)) := fa_ptr (s := 0) (ft := 119) (by kernel_rfl) (by kernel_rfl) k g off
@[go_sem] theorem T123f7q (cs) : fieldAddrA Try.prog 123 7 (.fptr cs) = some (.fptr (cs.drop 7)) := fa_fptr (s := 0) (ft := 119) (by kernel_rfl) (by kernel_rfl) cs
@[go_sem] theorem T123f7v (cs) : fieldA Try.prog 123 7 (.agg cs) = takeT Try.prog 119 (cs.drop 7) := fi_agg (by kernel_rfl) cs
@[go_sem] theorem T123f8p (k g off) : fieldAddrA Try.prog 123 8 (.ptr k g off) = some (.ptr k g (off + 8)) := fa_ptr (s := 0) (ft := 120) (by kernel_rfl) (by kernel_rfl) k g off
@[go_sem] theorem T123f8q (cs) : fieldAddrA Try.prog 123 8 (.fptr cs) = some (.fptr (cs.drop 8)) := fa_fptr (s := 0) (ft := 120) (by kernel_rfl) (by kernel_rfl) cs
@[go_sem] theorem T123f8v (cs) : fieldA Try.prog 123 8 (.agg cs) = takeT Try.prog 120 (cs.drop 8) := fi_agg (by kernel_rfl) cs
@[go_sem] theorem T123f9p (k g off) : fieldAddrA Try.prog 123 9 (.ptr k g off) = some (.ptr k g (off + 9)) := fa_ptr (s := 0) (ft := 121) (by kernel_rfl) (by kernel_rfl) k g off
@[go_sem] theorem T123f9q (cs) : fieldAddrA Try.prog 123 9 (.fptr cs) = some (.fptr (cs.drop 9)) := fa_fptr (s := 0) (ft := 121) (by kernel_rfl) (by kernel_rfl) cs
@[go_sem] theorem T123f9v (cs) : fieldA Try.prog 123 9 (.agg cs) = takeT Try.prog 121 (cs.drop 9) := fi_agg (by kernel_rfl) cs
@[go_sem] theorem T123f10p (k g off) : fieldAddrA Try.prog 123 10 (.ptr k g off) = some (.ptr k g (off + 10)) := fa_ptr (s := 0) (ft := 122) (by kernel_rfl) (by kernel_rfl) k g off
@[go_sem] theorem T123f10q (cs) : fieldAddrA Try.prog 123 10 (.fptr cs) = some (.fptr (cs.drop 10)) := fa_fptr (s := 0) (ft := 122) (by kernel_rfl) (by kernel_rfl) cs
@[go_sem] theorem T123f10v (cs) : fieldA Try.prog 123 10 (.agg cs) = takeT Try.prog 122 (cs.drop 10) := fi_agg (by kernel_rfl) cs
@[go_sem] theorem T124s : tSize Try.prog 124 = some 11 := by kernel_rfl
@[go_sem] theorem T124a : tAgg Try.prog 124 = some true := by kernel_rfl
@[go_sem] theorem T124f0p (k g off) : fieldAddrA Try.prog 124 0 (.ptr k g off) = some (.ptr k g (off + 0)) := fa_ptr (s := 0) (ft := 12) (by kernel_rfl) (by kernel_rfl) k g off
@[go_sem] theorem T124f0q (cs) : fieldAddrA Try.prog 124 0 (.fptr cs) = some (.fptr (cs.drop 0)) := fa_fptr (s := 0) (ft := 12) (by kernel_rfl) (by kernel_rfl) cs
@[go_sem] theorem T124f0v (cs) : fieldA Try.prog 124 0 (.agg cs) = takeT Try.prog 12 (cs.drop 0) := fi_agg (by kernel_rfl) cs
@[go_sem] theorem T124f1p (k g off) : fieldAddrA Try.prog 124 1 (.ptr k g off) = some (.ptr k g (off + 1)) := fa_ptr (s := 0) (ft := 12) (by kernel_rfl) (by kernel_rfl) k g off
@[go_sem] theorem T124f1q (cs) : fieldAddrA Try.prog 124 1 (.fptr cs) = some (.fptr (cs.drop 1)) := fa_fptr (s := 0) (ft := 12) (by kernel_rfl) (by kernel_rfl) cs
@[go_sem] theorem T124f1v (cs) : fieldA Try.prog 124 1 (.agg cs) = takeT Try.prog 12 (cs.drop 1) := fi_agg (by kernel_rfl) cs
@[go_sem] theorem T124f2p (k g off) : fieldAddrA Try.prog 124 2 (.ptr k g off) = some (.ptr k g (off + 2)) := fa_ptr (s := 0) (ft := 116) (by kernel_rfl) (by kernel_rfl) k g off
@[go_sem] theorem T124f2q (cs) : fieldAddrA Try.prog 124 2 (.fptr cs) = some (.fptr (cs.drop 2)) := fa_fptr (s := 0) (ft := 116) (by kernel_rfl) (by kernel_rfl) cs
@[go_sem] theorem T124f2v (cs) : fieldA Try.prog 124 2 (.agg cs) = takeT Try.prog 116 (cs.drop 2) := fi_agg (by kernel_rfl) cs
@[go_sem] theorem T124f3p (k g off) : fieldAddrA Try.prog 124 3 (.ptr k g off) = some (.ptr k g (off + 3)) := fa_ptr (s := 0) (ft := 117) (by kernel_rfl) (by kernel_rfl) k g off
@[go_sem] theorem T124f3q (cs) : fieldAddrA Try.prog 124 3 (.fptr cs) = some (.fptr (cs.drop 3)) := fa_fptr (s := 0) (ft := 117) (by kernel_rfl) (by kernel_rfl) cs
@[go_sem] theorem T124f3v (cs) : fieldA Try.prog 124 3 (.agg cs) = takeT Try.prog 117 (cs.drop 3) := fi_agg (by kernel_rfl) cs
@[go_sem] theorem T124f4p (k g off) : fieldAddrA Try.prog 124 4 (.ptr k g off) = some (.ptr k g (off + 4)) := fa_ptr (s := 0) (ft := 5) (by kernel_rfl) (by kernel_rfl) k g off
@[go_sem] theorem T124f4q (cs) : fieldAddrA Try.prog 124 4 (.fptr cs) = some (.fptr (cs.drop 4)) := fa_fptr (s := 0) (ft := 5) (by kernel_rfl) (by kernel_rfl) cs
@[go_sem] theorem T124f4v (cs) : fieldA Try.prog 124 4 (.agg cs) = takeT Try.prog 5 (cs.drop 4) := fi_agg (by kernel_rfl) cs
@[go_sem] theorem T124f5p (k g off) : fieldAddrA Try.prog 124 5 (.ptr k g off) = some (.ptr k g (off + 5)) := fa_ptr (s := 0) (ft := 5) (by kernel_rfl) (by kernel_rfl) k g off
@[go_sem] theorem T124f5q (cs) : fieldAddrA Try.prog 124 5 (.fptr cs) = some (.fptr (cs.drop 5)) := fa_fptr (s := 0) (ft := 5) (by kernel_rfl) (by kernel_rfl) cs
@[go_sem] theorem T124f5v (cs) : fieldA Try.prog 124 5 (.agg cs) = takeT Try.prog 5 (cs.drop 5) := fi_agg (by kernel_rfl) cs
@[go_sem] theorem T124f6p (k g off) : fieldAddrA Try.prog 124 6 (.ptr k g off) = some (.ptr k g (off + 6)) := fa_ptr (s := 0) (ft := 118) (by kernel_rfl) (by kernel_rfl) k g off
@[go_sem] theorem T124f6q (cs) : fieldAddrA Try.prog 124 6 (.fptr cs) = some (.fptr (cs.drop 6)) := fa_fptr (s := 0) (ft := 118) (by kernel_rfl) (by kernel_rfl) cs
@[go_sem] theorem T124f6v (cs) : fieldA Try.prog 124 6 (.agg cs) = takeT Try.prog 118 (cs.drop 6) := fi_agg (by kernel_rfl) cs
@[go_sem] theorem T124f7p (k g off) : fieldAddrA Try.prog 124 7 (.ptr k g off) = some (.ptr k g (off + 7)) := fa_ptr (s := 0) (ft := 119) (by kernel_rfl) (by kernel_rfl) k g off
@[go_sem] theorem T124f7q (cs) : fieldAddrA Try.prog 124 7 (.fptr cs) = some (.fptr (cs.drop 7)) := fa_fptr (s := 0) (ft := 119) (by kernel_rfl) (by kernel_rfl) cs
@[go_sem] theorem T124f7v (cs) : fieldA Try.prog 124 7 (.agg cs) = takeT Try.prog 119 (cs.drop 7) := fi_agg (by kernel_rfl) cs
@[go_sem] theorem T124f8p (k g off) : fieldAddrA Try.prog 124 8 (.ptr k g off) = some (.ptr k g (off + 8)) := fa_ptr (s := 0) (ft := 120) (by kernel_rfl) (by kernel_rfl) k g off
@[go_sem] theorem T124f8q (cs) : fieldAddrA Try.prog 124 8 (.fptr cs) = some (.fptr (cs.drop 8)) := fa_fptr (s := 0) (ft := 120) (by kernel_rfl) (by kernel_rfl) cs
@[go_sem] theorem T124f8v (cs) : fieldA Try.prog 124 8 (.agg cs) = takeT Try.prog 120 (cs.drop 8) := fi_agg (by kernel_rfl) cs
@[go_sem] theorem T124f9p (k g off) : fieldAddrA Try.prog 124 9 (.ptr k g off) = some (.ptr k g (off + 9)) := fa_ptr (s := 0) (ft := 121) (by kernel_rfl) (by kernel_rfl) k g off
@[go_sem] theorem T124f9q (cs) : fieldAddrA Try.prog 124 9 (.fptr cs) = some (.fptr (cs.drop 9)) := fa_fptr (s := 0) (ft := 121) (by kernel_rfl) (by kernel_rfl) cs
@[go_sem] theorem T124f9v (cs) : fieldA Try.prog 124 9 (.agg cs) = takeT Try.prog 121 (cs.drop 9) := fi_agg (by kernel_rfl) cs
@[go_sem] theorem T124f10p (k g off) : fieldAddrA Try.prog 124 10 (.ptr k g off) = some (.ptr k g (off + 10)) := fa_ptr (s := 0) (ft := 122) (by kernel_rfl) (by kernel_rfl) k g off
@[go_sem] theorem T124f10q (cs) : fieldAddrA Try.prog 124 10 (.fptr cs) = some (.fptr (cs.drop 10)) := fa_fptr (s := 0) (ft := 122) (by kernel_rfl) (by kernel_rfl) cs
@[go_sem] theorem T124f10v (cs) : fieldA Try.prog 124 10 (.agg cs) = takeT Try.prog 122 (cs.drop 10) := fi_agg (by kernel_rfl) cs
@[go_sem] theorem C2_3 (tg k n o nx) : aConvert Try.prog tg 2 3 (.int k n) ⟨o, nx⟩ = some (.int .i64 (IntKind.wrap .i64 n), ⟨o, nx⟩) := cv_int (td := .int .i64) (by kernel_rfl) (by kernel_rfl) tg k n o nx
@[go_sem] theorem C2_5 (tg k n o nx) : aConvert Try.prog tg 2 5 (.int k n) ⟨o, nx⟩ = some (.int .u8 (IntKind.wrap .u8 n), ⟨o, nx⟩) := cv_int (td := .int .i64) (by kernel_rfl) (by kernel_rfl) tg k n o nx
@[go_sem] theorem C2_29 (tg k n o nx) : aConvert Try.prog tg 2 29 (.int k n) ⟨o, nx⟩ = some (.int .i64 (IntKind.wrap .i64 n), ⟨o, nx⟩) := cv_int (td := .int .i64) (by kernel_rfl) (by kernel_rfl) tg k n o nx
@[go_sem] theorem C2_96 (tg k n o nx) : aConvert Try.prog tg 2 96 (.int k n) ⟨o, nx⟩ = some (.int .u64 (IntKind.wrap .u64 n), ⟨o, nx⟩) := cv_int (td := .int .i64) (by kernel_rfl) (by kernel_rfl) tg k n o nx
@[go_sem] theorem C2_116 (tg k n o nx) : aConvert Try.prog tg 2 116 (.int k n) ⟨o, nx⟩ = some (.int .u32 (IntKind.wrap .u32 n), ⟨o, nx⟩) := cv_int (td := .int .i64) (by kernel_rfl) (by kernel_rfl) tg k n o nx
@[go_sem] theorem C3_2 (tg k n o nx) : aConvert Try.prog tg 3 2 (.int k n) ⟨o, nx⟩ = some (.int .i64 (IntKind.wrap .i64 n), ⟨o, nx⟩) := cv_int (td := .int .i64) (by kernel_rfl) (by kernel_rfl) tg k n o nx
@[go_sem] theorem C3_5 (tg k n o nx) : aConvert Try.prog tg 3 5 (.int k n) ⟨o, nx⟩ = some (.int .u8 (IntKind.wrap .u8 n), ⟨o, nx⟩) := cv_int (td := .int .i64) (by kernel_rfl) (by kernel_rfl) tg k n o nx
@[go_sem] theorem C3_29 (tg k n o nx) : aConvert Try.prog tg 3 29 (.int k n) ⟨o, nx⟩ = some (.int .i64 (IntKind.wrap .i64 n), ⟨o, nx⟩) := cv_int (td := .int .i64) (by kernel_rfl) (by kernel_rfl) tg k n o nx
@[go_sem] theorem C3_96 (tg k n o nx) : aConvert Try.prog tg 3 96 (.int k n) ⟨o, nx⟩ = some (.int .u64 (IntKind.wrap .u64 n), ⟨o, nx⟩) := cv_int (td := .int .i64) (by kernel_rfl) (by kernel_rfl) tg k n o nx
@[go_sem] theorem C3_116 (tg k n o nx) : aConvert Try.prog tg 3 116 (.int k n) ⟨o, nx⟩ = some (.int .u32 (IntKind.wrap .u32 n), ⟨o, nx⟩) := cv_int (td := .int .i64) (by kernel_rfl) (by kernel_rfl) tg k n o nx
@[go_sem] theorem C5_2 (tg k n o nx) : aConvert Try.prog tg 5 2 (.int k n) ⟨o, nx⟩ = some (.int .i64 (IntKind.wrap .i64 n), ⟨o, nx⟩) := cv_int (td := .int .u8) (by kernel_rfl) (by kernel_rfl) tg k n o nx
@[go_sem] theorem C5_3 (tg k n o nx) : aConvert Try.prog tg 5 3 (.int k n) ⟨o, nx⟩ = some (.int .i64 (IntKind.wrap .i64 n), ⟨o, nx⟩) := cv_int (td := .int .u8) (by kernel_rfl) (by kernel_rfl) tg k n o nx
@[go_sem] theorem C5_29 (tg k n o nx) : aConvert Try.prog tg 5 29 (.int k n) ⟨o, nx⟩ = some (.int .i64 (IntKind.wrap .i64 n), ⟨o, nx⟩) := cv_int (td := .int .u8) (by kernel_rfl) (by kernel_rfl) tg k n o nx
@[go_sem] theorem C5_96 (tg k n o nx) : aConvert Try.prog tg 5 96 (.int k n) ⟨o, nx⟩ = some (.int .u64 (IntKind.wrap .u64 n), ⟨o, nx⟩) := cv_int (td := .int .u8) (by kernel_rfl) (by kernel_rfl) tg k n o nx
@[go_sem] theorem C5_116 (tg k n o nx) : aConvert Try.prog tg 5 116 (.int k n) ⟨o, nx⟩ = some (.int .u32 (IntKind.wrap .u32 n), ⟨o, nx⟩) := cv_int (td := .int .u8) (by kernel_rfl) (by kernel_rfl) tg k n o nx
@[go_sem] theorem C29_2 (tg k n o nx) : aConvert Try.prog tg 29 2 (.int k n) ⟨o, nx⟩ = some (.int .i64 (IntKind.wrap .i64 n), ⟨o, nx⟩) := cv_int (td := .int .i64) (by kernel_rfl) (by kernel_rfl) tg k n o nx
@[go_sem] theorem C29_3 (tg k n o nx) : aConvert Try.prog tg 29 3 (.int k n) ⟨o, nx⟩ = some (.int .i64 (IntKind.wrap .i64 n), ⟨o, nx⟩) := cv_int (td := .int .i64) (by kernel_rfl) (by kernel_rfl) tg k n o nx
@[go_sem] theorem C29_5 (tg k n o nx) : aConvert Try.prog tg 29 5 (.int k n) ⟨o, nx⟩ = some (.int .u8 (IntKind.wrap .u8 n), ⟨o, nx⟩) := cv_int (td := .int .i64) (by kernel_rfl) (by kernel_rfl) tg k n o nx
@[go_sem] theorem C29_96 (tg k n o nx) : aConvert Try.prog tg 29 96 (.int k n) ⟨o, nx⟩ = some (.int .u64 (IntKind.wrap .u64 n), ⟨o, nx⟩) := cv_int (td := .int .i64) (by kernel_rfl) (by kernel_rfl) tg k n o nx
@[go_sem] theorem C29_116 (tg k n o nx) : aConvert Try.prog tg 29 116 (.int k n) ⟨o, nx⟩ = some (.int .u32 (IntKind.wrap .u32 n), ⟨o, nx⟩) := cv_int (td := .int .i64) (by kernel_rfl) (by kernel_rfl) tg k n o nx
@[go_sem] theorem C96_2 (tg k n o nx) : aConvert Try.prog tg 96 2 (.int k n) ⟨o, nx⟩ = some (.int .i64 (IntKind.wrap .i64 n), ⟨o, nx⟩) := cv_int (td := .int .u64) (by kernel_rfl) (by kernel_rfl) tg k n o nx
@[go_sem] theorem C96_3 (tg k n o nx) : aConvert Try.prog tg 96 3 (.int k n) ⟨o, nx⟩ = some (.int .i64 (IntKind.wrap .i64 n), ⟨o, nx⟩) := cv_int (td := .int .u64) (by kernel_rfl) (by kernel_rfl) tg k n o nx
@[go_sem] theorem C96_5 (tg k n o nx) : aConvert Try.prog tg 96 5 (.int k n) ⟨o, nx⟩ = some (.int .u8 (IntKind.wrap .u8 n), ⟨o, nx⟩) := cv_int (td := .int .u64) (by kernel_rfl) (by kernel_rfl) tg k n o nx
@[go_sem] theorem C96_29 (tg k n o nx) : aConvert Try.prog tg 96 29 (.int k n) ⟨o, nx⟩ = some (.int .i64 (IntKind.wrap .i64 n), ⟨o, nx⟩) := cv_int (td := .int .u64) (by kernel_rfl) (by kernel_rfl) tg k n o nx
@[go_sem] theorem C96_116 (tg k n o nx) : aConvert Try.prog tg 96 116 (.int k n) ⟨o, nx⟩ = some (.int .u32 (IntKind.wrap .u32 n), ⟨o, nx⟩) := cv_int (td := .int .u64) (by kernel_rfl) (by kernel_rfl) tg k n o nx
@[go_sem] theorem C116_2 (tg k n o nx) : aConvert Try.prog tg 116 2 (.int k n) ⟨o, nx⟩ = some (.int .i64 (IntKind.wrap .i64 n), ⟨o, nx⟩) := cv_int (td := .int .u32) (by kernel_rfl) (by kernel_rfl) tg k n o nx
@[go_sem] theorem C116_3 (tg k n o nx) : aConvert Try.prog tg 116 3 (.int k n) ⟨o, nx⟩ = some (.int .i64 (IntKind.wrap .i64 n), ⟨o, nx⟩) := cv_int (td := .int .u32) (by kernel_rfl) (by kernel_rfl) tg k n o nx
@[go_sem] theorem C116_5 (tg k n o nx) : aConvert Try.prog tg 116 5 (.int k n) ⟨o, nx⟩ = some (.int .u8 (IntKind.wrap .u8 n), ⟨o, nx⟩) := cv_int (td := .int .u32) (by kernel_rfl) (by kernel_rfl) tg k n o nx
@[go_sem] theorem C116_29 (tg k n o nx) : aConvert Try.prog tg 116 29 (.int k n) ⟨o, nx⟩ = some (.int .i64 (IntKind.wrap .i64 n), ⟨o, nx⟩) := cv_int (td := .int .u32) (by kernel_rfl) (by kernel_rfl) tg k n o nx
@[go_sem] theorem C116_96 (tg k n o nx) : aConvert Try.prog tg 116 96 (.int k n) ⟨o, nx⟩ = some (.int .u64 (IntKind.wrap .u64 n), ⟨o, nx⟩) := cv_int (td := .int .u32) (by kernel_rfl) (by kernel_rfl) tg k n o nx
/-- How functions are called: on data, with a number or a truth value back; on data, with data back; on the caller's memory. -/
def md0 (f : FuncId) : Mode := if f ∈ [12, 25, 22, 13, 31, 53, 37, 17, 18, 24, 20, 26, 36, 42, 21, 27, 70] then .ext true else if f ∈ [23, 15, 34, 54, 19, 30, 14, 16, 28, 29, 38, 39, 40, 41, 58, 59, 60, 43, 44, 45, 46, 47] then .ext false else if f ∈ [] then .raw true else .raw false
@[go_sem] theorem M12 : md0 12 = .ext true := rfl
@[go_sem] theorem M25 : md0 25 = .ext true := rfl
@[go_sem] theorem M22 : md0 22 = .ext true := rfl
@[go_sem] theorem M23 : md0 23 = .ext false := rfl
@[go_sem] theorem M13 : md0 13 = .ext true := rfl
@[go_sem] theorem M15 : md0 15 = .ext false := rfl
@[go_sem] theorem M31 : md0 31 = .ext true := rfl
@[go_sem] theorem M53 : md0 53 = .ext true := rfl
@[go_sem] theorem M34 : md0 34 = .ext false := rfl
@[go_sem] theorem M54 : md0 54 = .ext false := rfl
@[go_sem] theorem M19 : md0 19 = .ext false := rfl
@[go_sem] theorem M30 : md0 30 = .ext false := rfl
@[go_sem] theorem M37 : md0 37 = .ext true := rfl
@[go_sem] theorem M14 : md0 14 = .ext false := rfl
@[go_sem] theorem M16 : md0 16 = .ext false := rfl
@[go_sem] theorem M17 : md0 17 = .ext true := rfl
@[go_sem] theorem M18 : md0 18 = .ext true := rfl
@[go_sem] theorem M24 : md0 24 = .ext true := rfl
@[go_sem] theorem M20 : md0 20 = .ext true := rfl
@[go_sem] theorem M26 : md0 26 = .ext true := rfl
@[go_sem] theorem M28 : md0 28 = .ext false := rfl
@[go_sem] theorem M29 : md0 29 = .ext false := rfl
@[go_sem] theorem M36 : md0 36 = .ext true := rfl
@[go_sem] theorem M42 : md0 42 = .ext true := rfl
@[go_sem] theorem M38 : md0 38 = .ext false := rfl
@[go_sem] theorem M39 : md0 39 = .ext false := rfl
@[go_sem] theorem M21 : md0 21 = .ext true := rfl
@[go_sem] theorem M40 : md0 40 = .ext false := rfl
@[go_sem] theorem M41 : md0 41 = .ext false := rfl
@[go_sem] theorem M58 : md0 58 = .ext false := rfl
@[go_sem] theorem M59 : md0 59 = .ext false := rfl
@[go_sem] theorem M60 : md0 60 = .ext false := rfl
@[go_sem] theorem M43 : md0 43 = .ext false := rfl
@[go_sem] theorem M44 : md0 44 = .ext false := rfl
@[go_sem] theorem M45 : md0 45 = .ext false := rfl
@[go_sem] theorem M46 : md0 46 = .ext false := rfl
@[go_sem] theorem M27 : md0 27 = .ext true := rfl
@[go_sem] theorem M47 : md0 47 = .ext false := rfl
@[go_sem] theorem M70 : md0 70 = .ext true := rfl
@[go_sem] theorem M32 : md0 32 = .raw false := rfl
@[go_sem] theorem M48 : md0 48 = .raw false := rfl
@[go_sem] theorem M49 : md0 49 = .raw false := rfl
@[go_sem] theorem M50 : md0 50 = .raw false := rfl
@[go_sem] theorem M33 : md0 33 = .raw false := rfl
@[go_sem] theorem M51 : md0 51 = .raw false := rfl
@[go_sem] theorem M52 : md0 52 = .raw false := rfl
@[go_sem] theorem M35 : md0 35 = .raw false := rfl
@[go_sem] theorem M55 : md0 55 = .raw false := rfl
@[go_sem] theorem M56 : md0 56 = .raw false := rfl
@[go_sem] theorem M57 : md0 57 = .raw false := rfl
@[go_sem] theorem M63 : md0 63 = .raw false := rfl
@[go_sem] theorem M64 : md0 64 = .raw false := rfl
end Go.Proofs.Ytcaemgpificohaa.A
/- A, part 30: slices that a call makes, rows of them; pairs and steps in cells; a contract out of a walk. -/
namespace Go.Proofs.Ytcaemgpificohaa.A
open Go

/-! ### cells of pairs, of steps -/
def cP (l : List (Int × Int)) : List AV := l.flatMap fun p => [.int .i64 p.1, .int .i64 p.2]
def cS (l : List (Int × Int × Int)) : List AV := l.flatMap fun p => [.int .i64 p.1, .int .i64 p.2.1, .int .i64 p.2.2]
@[go_sem] theorem cP_nil : cP [] = [] := rfl
@[go_sem] theorem cS_nil : cS [] = [] := rfl
theorem cP_app (x y) : cP (x ++ y) = cP x ++ cP y := by simp [cP]
theorem cS_app (x y) : cS (x ++ y) = cS x ++ cS y := by simp [cS]
theorem cP_snoc (l : List (Int × Int)) (f t : Int) : cP l ++ [.int .i64 f, .int .i64 t] = cP (l ++ [(f, t)]) := by simp [cP]
theorem cS_snoc (l : List (Int × Int × Int)) (f t s : Int) : cS l ++ [.int .i64 f, .int .i64 t, .int .i64 s] = cS (l ++ [(f, t, s)]) := by simp [cS]
@[go_sem] theorem cP_length (l) : (cP l).length = l.length * 2 := by
  induction l with
  | nil => rfl
  | cons p l ih => simp only [cP, List.flatMap_cons, List.length_append, List.length_cons, List.length_nil] at ih ⊢; omega
@[go_sem] theorem cS_length (l) : (cS l).length = l.length * 3 := by
  induction l with
  | nil => rfl
  | cons p l ih => simp only [cS, List.flatMap_cons, List.length_append, List.length_cons, List.length_nil] at ih ⊢; omega
@[go_sem] theorem cP_ok (l) : (cP l).all cellOk = true := by
  induction l with
  | nil => rfl
  | cons p l ih => simpa [cP, cellOk] using ih
@[go_sem] theorem cS_ok (l) : (cS l).all cellOk = true := by
  induction l with
  | nil => rfl
  | cons p l ih => simpa [cS, cellOk] using ih
@[go_sem] theorem view_cP (o d l) : (cP l).map (view o d) = cP l := by
  induction l with
  | nil => rfl
  | cons p l ih => simpa [cP, view_int] using ih
@[go_sem] theorem view_cS (o d l) : (cS l).map (view o d) = cS l := by
  induction l with
  | nil => rfl
  | cons p l ih => simpa [cS, view_int] using ih
@[go_sem] theorem tags_cP (o d l) : (cP l).flatMap (viewTags o d) = [] := by
  induction l with
  | nil => rfl
  | cons p l ih => simpa [cP, tags_int] using ih
@[go_sem] theorem tags_cS (o d l) : (cS l).flatMap (viewTags o d) = [] := by
  induction l with
  | nil => rfl
  | cons p l ih => simpa [cS, tags_int] using ih
theorem cP_at {l : List (Int × Int)} {i : Nat} (h : i < l.length) : (cP l).drop (i * 2) = .int .i64 (l.getD i (0, 0)).1 :: .int .i64 (l.getD i (0, 0)).2 :: cP (l.drop (i + 1)) := by
  induction l generalizing i with
  | nil => simp at h
  | cons p l ih =>
    cases i with
    | zero => rfl
    | succ i =>
      have : (i + 1) * 2 = i * 2 + 2 := by omega
      rw [this]
      have := ih (i := i) (by simpa using h)
      simpa [cP] using this
theorem cS_at {l : List (Int × Int × Int)} {i : Nat} (h : i < l.length) : (cS l).drop (i * 3) = .int .i64 (l.getD i (0, 0, 0)).1 :: .int .i64 (l.getD i (0, 0, 0)).2.1 :: .int .i64 (l.getD i (0, 0, 0)).2.2 :: cS (l.drop (i + 1)) := by
  induction l generalizing i with
  | nil => simp at h
  | cons p l ih =>
    cases i with
    | zero => rfl
    | succ i =>
      have : (i + 1) * 3 = i * 3 + 3 := by omega
      rw [this]
      have := ih (i := i) (by simpa using h)
      simpa [cS] using this
theorem cs_get {cs : List AV} {i s : Nat} (h : i < cs.length) : take1 false s (cs.drop i) = some (cs.getD i .nil) := by
  rw [take1_drop h]; simp [List.getD, h]
theorem splice_all {xs ys : List AV} (h : xs.length = ys.length) : splice xs 0 ys = ys := by rw [splice_zero, List.drop_eq_nil_of_le (by omega), List.append_nil]
theorem take_len {α : Type} {l : List α} {n : Nat} (h : l.length = n) : l.take n = l := by rw [← h]; exact List.take_length
theorem take_succ_getD {α : Type} {l : List α} {i : Nat} (h : i < l.length) (d : α) : l.take (i + 1) = l.take i ++ [l.getD i d] := by
  rw [List.take_add_one]; simp [List.getD, h]

@[go_sem] theorem cI_all (l) : (cI l).take l.length = cI l := take_len (by simp [cI])
@[go_sem] theorem cB_all (l) : (cB l).take l.length = cB l := take_len (by simp [cB])
@[go_sem] theorem cP_all (l) : (cP l).take (l.length * 2) = cP l := take_len (by simp [cP_length])
@[go_sem] theorem cS_all (l) : (cS l).take (l.length * 3) = cS l := take_len (by simp [cS_length])

/-! ### a slice that the call makes, which may be nil -/
/-- v holds cs, in a row of slot D. -/
def HS (e sz D : Nat) (o : Ob) (nx : Nat) (v : AV) (n : Nat) (cs : List AV) : Prop :=
  (v = .nil ∧ n = 0 ∧ cs = []) ∨ ∃ i g, v = .ref (i, D) g 0 n ∧ i < nx ∧ o (i, D) = some (.row ⟨e, sz, g, false, true, cs⟩) ∧ cs.length = n * sz
theorem HS.nil {e sz D o nx} : HS e sz D o nx .nil 0 [] := .inl ⟨rfl, rfl, rfl⟩
theorem HS.keep {e sz D o nx v n cs} (h : HS e sz D o nx v n cs) {o' : Ob} {nx' : Nat} (ho : ∀ i, i < nx → o' (i, D) = o (i, D)) (hn : nx ≤ nx') : HS e sz D o' nx' v n cs := by
  rcases h with h | ⟨i, g, h1, h2, h3, h4⟩
  · exact .inl h
  · exact .inr ⟨i, g, h1, by omega, by rw [ho i h2, h3], h4⟩
theorem HS.ok {e sz D o nx v n cs} (h : HS e sz D o nx v n cs) : cellOk v = true := by
  rcases h with ⟨rfl, _⟩ | ⟨i, g, rfl, _⟩ <;> rfl
theorem HS.cells {e sz D o nx v n cs} (h : HS e sz D o nx v n cs) : v.cells = [v] := by
  rcases h with ⟨rfl, _⟩ | ⟨i, g, rfl, _⟩ <;> rfl
theorem HS.len {e sz D o nx v n cs} (h : HS e sz D o nx v n cs) : cs.length = n * sz := by
  rcases h with ⟨_, rfl, rfl⟩ | ⟨i, g, _, _, _, h⟩
  · simp
  · exact h
/-- What it is handed on as. -/
theorem HS.view {e sz D o nx v n cs} (h : HS e sz D o nx v n cs) (d : Nat) : view o (d + 1) v = .sl n (cs.map (view o d)) := by
  rcases h with ⟨rfl, rfl, rfl⟩ | ⟨i, g, rfl, _, h3, h4⟩
  · rfl
  · rw [view_ref, h3, rowIf_some, viewR_some]
    simp only [Nat.zero_add, List.drop_zero]
    rw [if_pos (by omega), take_len h4]

theorem nin_slot {D : Nat} {l : List Tag} (h : ∀ t ∈ l, t.2 = D) {i j : Nat} (hj : j ≠ D) : nin (i, j) l = true := by
  unfold nin
  have : (i, j) ∉ l := fun hm => hj (h _ hm)
  simp [this]
theorem HS.tags {e sz D o nx v n cs} (h : HS e sz D o nx v n cs) (d : Nat) (hf : cs.flatMap (viewTags o d) = []) : ∀ t ∈ viewTags o (d + 1) v, t.2 = D := by
  rcases h with ⟨rfl, rfl, rfl⟩ | ⟨i, g, rfl, _, h3, h4⟩
  · intro t ht; cases ht
  · rw [tags_ref, h3, rowIf_some, tagsR_some, List.drop_zero, take_len h4, hf]
    intro t ht
    rw [List.mem_singleton.1 ht]
theorem HS.nin {e sz D o nx v n cs} (h : HS e sz D o nx v n cs) (d : Nat) (hf : cs.flatMap (viewTags o d) = []) {i j : Nat} (hj : j ≠ D) : A.nin (i, j) (viewTags o (d + 1) v) = true := nin_slot (h.tags d hf) hj

/-! ### rows of whole numbers, each of its own make -/
def NI (D : Nat) (o : Ob) (nx : Nat) (cs : List AV) (rows : List (List Int)) : Prop :=
  cs.length = rows.length ∧ (∀ j, j < rows.length → HS 3 1 D o nx (cs.getD j .nil) (rows.getD j []).length (cI (rows.getD j []))) ∧
    ∀ j j' i g n g' n', j < j' → cs.getD j .nil = .ref (i, D) g 0 n → cs.getD j' .nil ≠ .ref (i, D) g' 0 n'
theorem NI.keep {D o nx cs rows} (h : NI D o nx cs rows) {o' : Ob} {nx' : Nat} (ho : ∀ i, i < nx → o' (i, D) = o (i, D)) (hn : nx ≤ nx') : NI D o' nx' cs rows :=
  ⟨h.1, fun j hj => (h.2.1 j hj).keep ho hn, h.2.2⟩
theorem NI.start (D o nx) (n : Nat) : NI D o nx (List.replicate n .nil) (List.replicate n []) := by
  refine ⟨by simp, fun j hj => ?_, fun j j' i g m g' m' hj h => ?_⟩
  · have hj : j < n := by simpa using hj
    have e1 : (List.replicate n AV.nil).getD j .nil = .nil := by simp [List.getD, List.getElem?_replicate, hj]
    have e2 : (List.replicate n ([] : List Int)).getD j [] = [] := by simp [List.getD, List.getElem?_replicate, hj]
    rw [e1, e2]
    exact .inl ⟨rfl, rfl, rfl⟩
  · by_cases hj : j < n
    · have e1 : (List.replicate n AV.nil).getD j .nil = .nil := by simp [List.getD, List.getElem?_replicate, hj]
      rw [e1] at h; cases h
    · have e1 : (List.replicate n AV.nil).getD j .nil = .nil := by simp [List.getD, List.getElem?_replicate, hj]
      rw [e1] at h; cases h
theorem getD_set {α : Type} (l : List α) (i j : Nat) (x d : α) (hi : i < l.length) : (l.set i x).getD j d = if i = j then x else l.getD j d := by
  simp only [List.getD, List.getElem?_set]
  by_cases h : i = j
  · subst h; simp [hi]
  · simp [h]
/-- One of them is turned. -/
theorem NI.set {D o nx cs rows} (h : NI D o nx cs rows) {j : Nat} (hj : j < rows.length) {o' : Ob} {nx' : Nat} {i : Nat} {g : Tag} {l : List Int} {n : Nat} (hl : n = l.length) (hn : nx ≤ nx') (hi : i < nx')
    (hnew : cs.getD j .nil = .nil ∧ nx ≤ i ∨ ∃ g0 n0, cs.getD j .nil = .ref (i, D) g0 0 n0) (ho : ∀ i', i' < nx → i' ≠ i → o' (i', D) = o (i', D)) (hrow : o' (i, D) = some (.row ⟨3, 1, g, false, true, cI l⟩)) :
    NI D o' nx' (cs.set j (.ref (i, D) g 0 n)) (rows.set j l) := by
  subst hl
  obtain ⟨h1, h2, h3⟩ := h
  have hjc : j < cs.length := by omega
  have apart : ∀ j', j' ≠ j → ∀ g' n', cs.getD j' .nil = .ref (i, D) g' 0 n' → j' < rows.length → False := fun j' hne g' n' he hlt => by
    rcases hnew with ⟨_, hi'⟩ | ⟨g0, n0, he0⟩
    · rcases h2 j' hlt with ⟨e, _⟩ | ⟨i1, g1, e, hi1, _⟩
      · rw [e] at he; cases he
      · rw [e] at he; injection he with he; injection he with he; omega
    · rcases Nat.lt_or_gt_of_ne hne with hlt' | hlt'
      · exact h3 j' j i g' n' g0 n0 hlt' he he0
      · exact h3 j j' i g0 n0 g' n' hlt' he0 he
  have out : ∀ j', ¬ j' < rows.length → cs.getD j' .nil = .nil := fun j' hj' => by
    simp [List.getD, List.getElem?_eq_none (show cs.length ≤ j' by omega)]
  refine ⟨by simpa using h1, fun j' hj' => ?_, fun j1 j2 i1 g1 n1 g2 n2 hlt e1 e2 => ?_⟩
  · have hj'' : j' < rows.length := by simpa using hj'
    rw [getD_set _ _ _ _ _ hjc, getD_set _ _ _ _ _ hj]
    by_cases e : j = j'
    · rw [if_pos e, if_pos e]
      exact .inr ⟨i, g, rfl, hi, hrow, by simp [cI]⟩
    · rw [if_neg e, if_neg e]
      rcases h2 j' hj'' with hh | ⟨i1, g1, e1, hi1, e3, e4⟩
      · exact .inl hh
      · refine .inr ⟨i1, g1, e1, by omega, ?_, e4⟩
        rw [ho i1 hi1 (fun hc => by subst hc; exact apart j' (fun hc => e hc.symm) _ _ e1 hj''), e3]
  · rw [getD_set _ _ _ _ _ hjc] at e1 e2
    have bound : ∀ j', (∃ i g n, cs.getD j' .nil = .ref i g 0 n) → j' < rows.length := fun j' ⟨i, g, n, he⟩ => by
      by_cases hb : j' < rows.length
      · exact hb
      · rw [out j' hb] at he; cases he
    by_cases c1 : j = j1
    · rw [if_pos c1] at e1
      rw [if_neg (by omega)] at e2
      injection e1 with e1; injection e1 with e1
      subst e1
      exact apart j2 (by omega) _ _ e2 (bound j2 ⟨_, _, _, e2⟩)
    · rw [if_neg c1] at e1
      by_cases c2 : j = j2
      · rw [if_pos c2] at e2
        injection e2 with e2; injection e2 with e2
        subst e2
        exact apart j1 (by omega) _ _ e1 (bound j1 ⟨_, _, _, e1⟩)
      · rw [if_neg c2] at e2
        exact h3 j1 j2 i1 g1 n1 g2 n2 hlt e1 e2
/-- What they are handed on as. -/
theorem NI.view {D o nx cs rows} (h : NI D o nx cs rows) (d : Nat) : cs.map (A.view o (d + 1)) = rows.map slI := by
  refine List.ext_getElem (by simpa using h.1) fun j h1 h2 => ?_
  have hj : j < rows.length := by simpa using h2
  have hjc : j < cs.length := by simpa using h1
  have := h.2.1 j hj
  have e1 : cs.getD j .nil = cs[j] := by simp [List.getD, hjc]
  have e2 : rows.getD j [] = rows[j] := by simp [List.getD, hj]
  rw [e1, e2] at this
  simp only [List.getElem_map]
  rw [this.view, view_cI]

/-! ### contracts as relations -/
def Fun1 (R : List AV → AV → Prop) : Prop := ∀ args r r', R args r → R args r' → r = r'
open Classical in
noncomputable def tRel (R : List AV → AV → Prop) : List AV → Option AV := fun args => if h : ∃ r, R args r then some h.choose else none
theorem tRel_eq {R : List AV → AV → Prop} (hf : Fun1 R) {args : List AV} {r : AV} (h : R args r) : tRel R args = some r := by
  unfold tRel
  rw [dif_pos ⟨r, h⟩]
  exact congrArg some (hf _ _ _ (Exists.choose_spec (p := R args) ⟨r, h⟩) h)
theorem tRel_ok {P : Program} {f : FuncId} {R : List AV → AV → Prop} (hk : ∀ args r, R args r → Ok P f args r) : ∀ args r, tRel R args = some r → Ok P f args r := fun args r h => by
  unfold tRel at h
  split at h
  · rename_i hh
    injection h with h
    subst h
    exact hk _ _ hh.choose_spec
  · cases h
theorem cI_inj {x y : List Int} (h : cI x = cI y) : x = y := by
  unfold cI at h
  exact List.map_inj_right (fun a b h => by injection h) |>.1 h
theorem cB_inj {x y : List Bool} (h : cB x = cB y) : x = y := by
  unfold cB at h
  exact List.map_inj_right (fun a b h => by injection h) |>.1 h
theorem slI_inj {x y : List Int} (h : slI x = slI y) : x = y := by
  unfold slI at h; injection h with _ h; exact cI_inj h
theorem slIs_inj {x y : List (List Int)} (h : x.map slI = y.map slI) : x = y := List.map_inj_right (fun a b h => slI_inj h) |>.1 h
theorem cP_inj : ∀ {x y : List (Int × Int)}, cP x = cP y → x = y
  | [], [], _ => rfl
  | [], _ :: _, h => by cases h
  | _ :: _, [], h => by cases h
  | (a, b) :: x, (c, d) :: y, h => by
    simp only [cP, List.flatMap_cons, List.cons_append, List.nil_append, List.cons.injEq, AV.int.injEq, true_and] at h
    obtain ⟨rfl, rfl, h⟩ := h
    rw [cP_inj h]
theorem cS_inj : ∀ {x y : List (Int × Int × Int)}, cS x = cS y → x = y
  | [], [], _ => rfl
  | [], _ :: _, h => by cases h
  | _ :: _, [], h => by cases h
  | (a, b, e) :: x, (c, d, f) :: y, h => by
    simp only [cS, List.flatMap_cons, List.cons_append, List.nil_append, List.cons.injEq, AV.int.injEq, true_and] at h
    obtain ⟨rfl, rfl, rfl, h⟩ := h
    rw [cS_inj h]

/-! ### a contract out of a walk -/
theorem runP_of_WP {E : Env} {cr : CallR} {k : Nat} {nz : Nat → Option (List (Nat × Nat))} {fn : Func} {c : Code} {args : List AV} {r : AV} (hb : fn.body = some c)
    (h : WP E cr k nz c (begin_ args) (fun _ => none) 0 (fun u a o nx => (u = .normal ∨ u = .ret) ∧ wO (resultsL E.P a ⟨o, nx⟩ fn.results.toList) (fun vs => A.view o vDepth (tup1 vs) = r))) :
    ∃ v H', runP E cr k nz fn args noHeap = some (v, H') ∧ A.view H'.o vDepth v = r := by
  unfold WP at h
  unfold runP noHeap
  rw [hb]
  dsimp only
  cases he : evalP E (fun _ _ => none) cr k nz none c (begin_ args) { o := fun _ => none, nx := 0 } with
  | none => rw [he] at h; exact h.elim
  | some p =>
    obtain ⟨u, a, H⟩ := p
    rw [he] at h
    obtain ⟨hu, h⟩ := h
    obtain ⟨vs, h1, h2⟩ : ∃ vs, resultsL E.P a H fn.results.toList = some vs ∧ A.view H.o vDepth (tup1 vs) = r := by
      unfold wO at h
      split at h
      · rename_i vs e; exact ⟨vs, e, h⟩
      · exact h.elim
    rcases hu with rfl | rfl
    · dsimp only
      refine ⟨tup1 vs, H, ?_, h2⟩
      show (resultsL E.P a H fn.results.toList).map _ = _
      rw [show resultsL E.P a H fn.results.toList = some vs from h1]; rfl
    · dsimp only
      refine ⟨tup1 vs, H, ?_, h2⟩
      show (resultsL E.P a H fn.results.toList).map _ = _
      rw [show resultsL E.P a H fn.results.toList = some vs from h1]; rfl
theorem ok_of_WP {E : Env} {cr : CallR} (hX : CPSound E.P E.ext) (hR : CRSound E.P cr ∧ Up cr) (hm : E.P.follows .mixedOrders = true) {k : Nat} {nz : Nat → Option (List (Nat × Nat))} {fn : Func} {f : FuncId} {args : List AV} {r : AV} (hf : E.P.funcs[f]? = some fn)
    (hl : lookedAt E nz args.length fn = true) (hb : fn.body = some (fn.body.getD .skip))
    (h : WP E cr k nz (fn.body.getD .skip) (begin_ args) (fun _ => none) 0 (fun u a o nx => (u = .normal ∨ u = .ret) ∧ wO (resultsL E.P a ⟨o, nx⟩ fn.results.toList) (fun vs => A.view o vDepth (tup1 vs) = r))) : Ok E.P f args r := by
  obtain ⟨v, H', h1, h2⟩ := runP_of_WP hb h
  rw [← h2]
  exact ok_run hX hR.1 hR.2 hm hf hl h1
def noR : CallR := fun _ _ _ => none
theorem noR_ok (P : Program) : CRSound P noR ∧ Up noR := ⟨fun g args H v H' h => (by cases h), fun g args H v H' h => (by cases h)⟩
@[go_sem] theorem resultsL_nil (P a H) : resultsL P a H [] = some [] := rfl
@[go_sem] theorem resultsL_cons (P a H r rs) : resultsL P a H (r :: rs) = consO (result1 P a H r) (resultsL P a H rs) := rfl
@[go_sem] theorem result1_tmp (P a H t) : result1 P a H (.tmp t) = some (a t) := rfl
@[go_sem] theorem result1_cell (P a H ad t) : result1 P a H (.cell ad t) = aLoad P t (a ad) H := rfl
@[go_sem] theorem tup1_one (v) : tup1 [v] = v := rfl
@[go_sem] theorem tup1_two (v w) : tup1 [v, w] = .tup [v, w] := rfl
@[go_sem] theorem tup1_three (v w x) : tup1 [v, w, x] = .tup [v, w, x] := rfl
/-- A piece of code, by its place. -/
def pathC : List Nat → Code → Code
  | [], c => c
  | 0 :: p, .seq a _ => pathC p a
  | 1 :: p, .seq _ b => pathC p b
  | 0 :: p, .block _ c => pathC p c
  | 0 :: p, .loop c => pathC p c
  | 0 :: p, .scope c => pathC p c
  | 0 :: p, .cond _ a _ => pathC p a
  | 1 :: p, .cond _ _ b => pathC p b
  | _, c => c
end Go.Proofs.Ytcaemgpificohaa.A
/- closing: the rows of free steps. -/
namespace Go.Proofs.Ytcaemgpificohaa.A
open Go
set_option maxRecDepth 20000
abbrev nfaV (N S F : Int) (ss : List (Int × Int × Int)) (fs : List (Int × Int)) : AV := .agg [.int .i64 N, .int .i64 S, .int .i64 F, .sl ss.length (cS ss), .sl fs.length (cP fs)]
/-- Where free steps lead, state by state. -/
def rowAdd (rows : List (List Int)) (f : Int × Int) : List (List Int) := rows.set f.1.toNat (rows.getD f.1.toNat [] ++ [f.2])
def rowsOf (N : Nat) (fs : List (Int × Int)) : List (List Int) := fs.foldl rowAdd (List.replicate N [])
theorem rowsOf_snoc (N fs f) : rowsOf N (fs ++ [f]) = rowAdd (rowsOf N fs) f := by simp [rowsOf]
theorem rowsOf_length (N fs) : (rowsOf N fs).length = N := by
  have : ∀ (l : List (Int × Int)) (rows : List (List Int)), (l.foldl rowAdd rows).length = rows.length := fun l => by
    induction l with
    | nil => intro; rfl
    | cons f l ih => intro rows; rw [List.foldl_cons, ih]; simp [rowAdd]
  rw [rowsOf, this]; simp
theorem rowsOf_le (N fs j) : ((rowsOf N fs).getD j []).length ≤ fs.length := by
  have : ∀ (l : List (Int × Int)) (rows : List (List Int)) (n : Nat), (∀ j, (rows.getD j []).length ≤ n) → ∀ j, ((l.foldl rowAdd rows).getD j []).length ≤ n + l.length := fun l => by
    induction l with
    | nil => intro rows n h j; simpa using h j
    | cons f l ih =>
      intro rows n h j
      have := ih (rowAdd rows f) (n + 1) (fun j => by
        unfold rowAdd
        by_cases hf : f.1.toNat < rows.length
        · rw [getD_set _ _ _ _ _ hf]
          split
          · have := h f.1.toNat; rw [List.length_append, List.length_singleton]; omega
          · have := h j; omega
        · rw [List.set_eq_of_length_le (by omega)]; have := h j; omega) j
      simp only [List.foldl_cons, List.length_cons]; omega
  have := this fs (List.replicate N []) 0 (fun j => by simp [List.getD, List.getElem?_replicate]; split <;> simp) j
  simpa [rowsOf] using this
def nz38 : Nat → Option (List (Nat × Nat))
  | 1 => some [(1, 4), (1, 6), (3, 6), (4, 6)]
  | 5 => some [(1, 12), (3, 12), (5, 12), (7, 12), (9, 12), (1, 13), (3, 13)]
  | _ => none
theorem closing_wp (md X cr k) (N : Nat) (S F : Int) (hN : N ≤ 1000) (ss fs) (hfs : fs.length ≤ 100000) (hk : fs.length < k) (hin : ∀ p ∈ fs, 0 ≤ p.1 ∧ p.1 < (N : Int)) :
    WP (EX md X) cr k nz38 (Try.f38.body.getD .skip) (begin_ [nfaV N S F ss fs]) (fun _ => none) 0 (fun u a o nx => u = .ret ∧ ∃ cs, NI 32 o nx cs (rowsOf N fs) ∧ a 2 = .ptr (0, 2) (0, 2) 0 ∧
      o (0, 2) = some (.row ⟨79, 1, (0, 2), false, true, [.int .i64 N, .ref (1, 10) (1, 10) 0 N]⟩) ∧ o (1, 10) = some (.row ⟨40, 1, (1, 10), false, true, cs⟩)) := by
  simp only [Try.f38, Option.getD_some]
  simp only [go_sem, ↓IntWalk.iteOmega, IntWalk.toNatUp, Nat.reduceEqDiff, Nat.reduceAdd, Nat.reduceMul, Nat.reduceSub, Nat.reduceLT, Nat.reduceLeDiff, Int.reduceToNat, Int.reduceLT, Int.reduceLE, Int.reduceEq, Int.reduceAdd, Int.reduceSub, Int.reduceMul, Int.toNat_natCast, reduceCtorEq, decide_true, decide_false, IntWalk.i64_in, IntWalk.u64_in, IntWalk.u8_in, nz38, begin_]
  refine WP_loop (fun m a o nx => ∃ i cs, i ≤ fs.length ∧ m = fs.length - i ∧ NI 32 o nx cs (rowsOf N (fs.take i)) ∧ 2 ≤ nx ∧ a 2 = .ptr (0, 2) (0, 2) 0 ∧ a 3 = .ptr (1, 3) (1, 3) 0 ∧ a 13 = .sl fs.length (cP fs) ∧ a 14 = .int .i64 fs.length ∧ a 15 = .int .i64 i ∧
      (∃ x, o (0, 2) = some (.row ⟨79, 1, (0, 2), false, true, x⟩) ∧ x.length = 2) ∧ o (1, 3) = some (.row ⟨79, 1, (1, 3), false, true, [.int .i64 N, .ref (1, 10) (1, 10) 0 N]⟩) ∧ o (1, 10) = some (.row ⟨40, 1, (1, 10), false, true, cs⟩)) fs.length hk ⟨0, List.replicate N .nil, ?_⟩ ?_
  · simp only [go_sem, ↓IntWalk.iteOmega, IntWalk.toNatUp, Nat.reduceEqDiff, Nat.reduceAdd, Nat.reduceMul, Nat.reduceSub, Nat.reduceLT, Nat.reduceLeDiff, Int.reduceToNat, Int.reduceLT, Int.reduceLE, Int.reduceEq, Int.reduceAdd, Int.reduceSub, Int.reduceMul, Int.toNat_natCast, reduceCtorEq, decide_true, decide_false, IntWalk.i64_in, IntWalk.u64_in, IntWalk.u8_in, rep_one, List.take_zero, Nat.sub_zero]
    exact ⟨by omega, NI.start _ _ _ N, ⟨_, rfl, rfl⟩⟩
  · rintro m a o nx ⟨i, cs, hi, rfl, hNI, hnx, h2, h3, h13, h14, h15, ⟨x, hx, hxl⟩, ho3, ho10⟩
    by_cases hlt : i < fs.length
    · obtain ⟨hf0, hfN⟩ := hin (fs.getD i (0, 0)) (by simp [List.getD, hlt])
      have hat := cP_at hlt
      have htake := take_succ_getD hlt (0, 0)
      generalize fs.getD i (0, 0) = f at hf0 hfN hat htake
      obtain ⟨f, t⟩ := f
      simp only at hf0 hfN hat htake
      obtain ⟨j, rfl⟩ := Int.eq_ofNat_of_zero_le hf0
      have hrl := rowsOf_length N (fs.take i)
      have hcl : cs.length = N := by rw [hNI.1, hrl]
      have hjN : j < cs.length := by omega
      have hH := hNI.2.1 j (by omega)
      have hget := cs_get (s := 1) hjN
      generalize hv : cs.getD j .nil = v at hH hget
      have hspl : ∀ v, splice cs j [v] = cs.set j v := fun v => splice_eq cs j v hjN
      have hnext : rowsOf N (fs.take (i + 1)) = (rowsOf N (fs.take i)).set j ((rowsOf N (fs.take i)).getD j [] ++ [t]) := by rw [htake, rowsOf_snoc]; rfl
      have hjr : j < (rowsOf N (fs.take i)).length := by omega
      rcases hH with ⟨rfl, e2, e3⟩ | ⟨i1, g, rfl, hi1, hrow, hlen⟩
      · simp (disch := omega) only [go_sem, ↓IntWalk.iteOmega, IntWalk.toNatUp, Nat.reduceEqDiff, Nat.reduceAdd, Nat.reduceMul, Nat.reduceSub, Nat.reduceLT, Nat.reduceLeDiff, Int.reduceToNat, Int.reduceLT, Int.reduceLE, Int.reduceEq, Int.reduceAdd, Int.reduceSub, Int.reduceMul, Int.toNat_natCast, reduceCtorEq, decide_true, decide_false, IntWalk.i64_in, IntWalk.u64_in, IntWalk.u8_in, nz38, h2, h3, h13, h14, h15, ho3, ho10, hat, hget, hspl, IntWalk.i64_in]
        have e4 : (rowsOf N (fs.take i)).getD j [] = [] := List.length_eq_zero_iff.1 e2
        refine ⟨_, ?_, i + 1, _, by omega, rfl, ?_, by simp, ⟨x, hx, hxl⟩, rfl⟩
        · omega
        · rw [hnext, e4]
          exact NI.set (l := [t]) hNI hjr rfl (by omega) (by omega) (.inl ⟨hv, by omega⟩) (fun i' _ h => by simp [upd_app, h]) (by simp [upd_app, cI])
      · have hle := rowsOf_le N (fs.take i) j
        have hlt' : (fs.take i).length ≤ fs.length := by simp; omega
        generalize (rowsOf N (fs.take i)).getD j [] = r at *
        simp (disch := omega) only [go_sem, ↓IntWalk.iteOmega, IntWalk.toNatUp, Nat.reduceEqDiff, Nat.reduceAdd, Nat.reduceMul, Nat.reduceSub, Nat.reduceLT, Nat.reduceLeDiff, Int.reduceToNat, Int.reduceLT, Int.reduceLE, Int.reduceEq, Int.reduceAdd, Int.reduceSub, Int.reduceMul, Int.toNat_natCast, reduceCtorEq, decide_true, decide_false, IntWalk.i64_in, IntWalk.u64_in, IntWalk.u8_in, nz38, h2, h3, h13, h14, h15, ho3, ho10, hat, hget, hrow, hspl, IntWalk.i64_in]
        refine ⟨_, ?_, i + 1, _, by omega, rfl, ?_, by simp, ⟨x, hx, hxl⟩, rfl⟩
        · omega
        · rw [hnext]
          exact NI.set (l := r ++ [t]) hNI hjr (by simp) (by omega) (by omega) (.inr ⟨_, _, hv⟩) (fun i' _ h => by simp [upd_app, h]) (by simp [upd_app, cI])
    · have e : i = fs.length := by omega
      subst e
      rw [List.take_length] at hNI
      match x, hxl with
      | [x1, x2], _ =>
        simp only [go_sem, ↓IntWalk.iteOmega, IntWalk.toNatUp, Nat.reduceEqDiff, Nat.reduceAdd, Nat.reduceMul, Nat.reduceSub, Nat.reduceLT, Nat.reduceLeDiff, Int.reduceToNat, Int.reduceLT, Int.reduceLE, Int.reduceEq, Int.reduceAdd, Int.reduceSub, Int.reduceMul, Int.toNat_natCast, reduceCtorEq, decide_true, decide_false, IntWalk.i64_in, IntWalk.u64_in, IntWalk.u8_in, nz38, h2, h3, h13, h14, h15, ho3, ho10, hx]
        exact ⟨cs, hNI.keep (fun _ _ => by simp [upd_app]) (by omega), rfl⟩
abbrev closerV (N : Nat) (rows : List (List Int)) : AV := .agg [.int .i64 N, .sl N (rows.map slI)]
theorem look38 (X) : lookedAt (EX md0 X) nz38 1 Try.f38 = true := by kernel_rfl
theorem closing_ok (N : Nat) (S F : Int) (hN : N ≤ 1000) (ss fs) (hfs : fs.length ≤ 100000) (hin : ∀ p ∈ fs, 0 ≤ p.1 ∧ p.1 < (N : Int)) : Ok Try.prog 38 [nfaV N S F ss fs] (closerV N (rowsOf N fs)) := by
  refine ok_of_WP (E := EX md0 (fun _ _ => none)) (cr := noR) (tab_nil _) (noR_ok _) mixed (k := fs.length + 1) Try.func38 (look38 _) rfl (WP_mono (closing_wp _ _ _ _ N S F hN ss fs hfs (by omega) hin) ?_)
  rintro u a o nx ⟨rfl, cs, hNI, h2, ho2, ho10⟩
  have hv := hNI.view 9
  have hl : cs.length = N := by rw [hNI.1, rowsOf_length]
  refine ⟨.inr rfl, ?_⟩
  simp only [Try.f38, go_sem, ↓IntWalk.iteOmega, IntWalk.toNatUp, Nat.reduceEqDiff, Nat.reduceAdd, Nat.reduceMul, Nat.reduceSub, Nat.reduceLT, Nat.reduceLeDiff, Int.reduceToNat, Int.reduceLT, Int.reduceLE, Int.reduceEq, Int.reduceAdd, Int.reduceSub, Int.reduceMul, Int.toNat_natCast, reduceCtorEq, decide_true, decide_false, IntWalk.i64_in, IntWalk.u64_in, IntWalk.u8_in, h2, ho2, ho10, hl, hv, take_len hl]
end Go.Proofs.Ytcaemgpificohaa.A
/- A, part 31: contracts on the caller's memory, as relations. -/
namespace Go.Proofs.Ytcaemgpificohaa.A
open Go
abbrev RRel := List AV → AH → AV → AH → Prop
open Classical in
noncomputable def cRel (R : RRel) (args : List AV) (H : AH) : Option (AV × AH) := if h : ∃ p : AV × AH, R args H p.1 p.2 then some h.choose else none
theorem cRel_some {R : RRel} {args H v H'} (h : cRel R args H = some (v, H')) : R args H v H' := by
  unfold cRel at h
  split at h
  · rename_i e
    have := e.choose_spec
    injection h with h
    rw [h] at this
    exact this
  · cases h
theorem cRel_call {R : RRel} {args : List AV} {H : AH} {K : AV × AH → Prop} (h1 : ∃ v H', R args H v H') (h2 : ∀ v H', R args H v H' → K (v, H')) : wO (Option.map (fun p => freezeR false p.1 p.2) (cRel R args H)) K := by
  obtain ⟨v, H', h⟩ := h1
  have e : ∃ p : AV × AH, R args H p.1 p.2 := ⟨(v, H'), h⟩
  have e2 : cRel R args H = some e.choose := by unfold cRel; rw [dif_pos e]
  rw [e2]
  exact h2 _ _ e.choose_spec
theorem runPR_of_WP {E : Env} {cr : CallR} {k : Nat} {nz : Nat → Option (List (Nat × Nat))} {fn : Func} {c : Code} {args : List AV} {o : Ob} {nx : Nat} {Post : AV → Ob → Nat → Prop} (hb : fn.body = some c)
    (h : WP E cr k nz c (begin_ args) o nx (fun u a o' nx' => (u = .normal ∨ u = .ret) ∧ wO (resultsL E.P a ⟨o', nx'⟩ fn.results.toList) (fun vs => Post (tup1 vs) o' nx'))) :
    ∃ v H', runP E cr k nz fn args ⟨o, nx⟩ = some (v, H') ∧ Post v H'.o H'.nx := by
  unfold WP at h
  unfold runP
  rw [hb]
  dsimp only
  cases he : evalP E (fun _ _ => none) cr k nz none c (begin_ args) ⟨o, nx⟩ with
  | none => rw [he] at h; exact h.elim
  | some p =>
    obtain ⟨u, a, H⟩ := p
    rw [he] at h
    obtain ⟨hu, h⟩ := h
    obtain ⟨vs, h1, h2⟩ : ∃ vs, resultsL E.P a H fn.results.toList = some vs ∧ Post (tup1 vs) H.o H.nx := by
      unfold wO at h
      split at h
      · rename_i vs e; exact ⟨vs, e, h⟩
      · exact h.elim
    rcases hu with rfl | rfl
    · dsimp only
      refine ⟨tup1 vs, H, ?_, h2⟩
      show (resultsL E.P a H fn.results.toList).map _ = _
      rw [show resultsL E.P a H fn.results.toList = some vs from h1]; rfl
    · dsimp only
      refine ⟨tup1 vs, H, ?_, h2⟩
      show (resultsL E.P a H fn.results.toList).map _ = _
      rw [show resultsL E.P a H fn.results.toList = some vs from h1]; rfl
theorem okR_of_WP {E : Env} {cr : CallR} (hX : CPSound E.P E.ext) (hR : CRSound E.P cr ∧ Up cr) (hm : E.P.follows .mixedOrders = true) {k : Nat} {nz : Nat → Option (List (Nat × Nat))} {fn : Func} {f : FuncId} {args : List AV} {o : Ob} {nx : Nat} {Post : AV → Ob → Nat → Prop} (hf : E.P.funcs[f]? = some fn)
    (hl : lookedAt E nz args.length fn = true) (hb : fn.body = some (fn.body.getD .skip))
    (h : WP E cr k nz (fn.body.getD .skip) (begin_ args) o nx (fun u a o' nx' => (u = .normal ∨ u = .ret) ∧ wO (resultsL E.P a ⟨o', nx'⟩ fn.results.toList) (fun vs => Post (tup1 vs) o' nx'))) : ∃ v H', OkR E.P f args ⟨o, nx⟩ v H' ∧ Post v H'.o H'.nx := by
  obtain ⟨v, H', h1, h2⟩ := runPR_of_WP hb h
  exact ⟨v, H', okR_run hX hR.1 hR.2 hm hf hl h1, h2⟩
end Go.Proofs.Ytcaemgpificohaa.A
/- A, part 32: loops, round by round. -/
namespace Go.Proofs.Ytcaemgpificohaa.A
open Go
section
variable (E : Env) (cr : CallR) (k : Nat) (nz : Nat → Option (List (Nat × Nat)))
/-- A loop of n rounds at most. -/
def WPL (n : Nat) (c : Code) (a : AAct) (o : Ob) (nx : Nat) (Q : WPost) : Prop :=
  match iter (evalP E (fun _ _ => none) cr k nz none c) n a ⟨o, nx⟩ with
  | some (u, a', H') => Q u a' H'.o H'.nx
  | none => False
def loopQ (n : Nat) (c : Code) (Q : WPost) : WPost := fun u a o nx => match u with
  | .normal => WPL E cr k nz n c a o nx Q
  | u => Q u a o nx
end
section
variable {E : Env} {cr : CallR} {k : Nat} {nz : Nat → Option (List (Nat × Nat))}
theorem loopQ_normal (n c) (Q : WPost) (a o nx) : loopQ E cr k nz n c Q .normal a o nx = WPL E cr k nz n c a o nx Q := rfl
theorem loopQ_ret (n c) (Q : WPost) (a o nx) : loopQ E cr k nz n c Q .ret a o nx = Q .ret a o nx := rfl
theorem loopQ_exit (n c) (Q : WPost) (i a o nx) : loopQ E cr k nz n c Q (.exit i) a o nx = Q (.exit i) a o nx := rfl
theorem loopQ_goto (n c) (Q : WPost) (i a o nx) : loopQ E cr k nz n c Q (.goto i) a o nx = Q (.goto i) a o nx := rfl
theorem WPL_succ (n : Nat) (c : Code) (a o nx) (Q : WPost) : WPL E cr k nz (n + 1) c a o nx Q = WP E cr k nz c a o nx (loopQ E cr k nz n c Q) := by
  unfold WPL WP
  simp only [iter]
  cases evalP E (fun _ _ => none) cr k nz none c a ⟨o, nx⟩ with
  | none => rfl
  | some p =>
    obtain ⟨u, a', H'⟩ := p
    cases u <;> rfl
theorem WP_loop_eq (c : Code) (a o nx) (Q : WPost) : WP E cr k nz (.loop c) a o nx Q = WPL E cr k nz k c a o nx Q := by
  unfold WPL WP
  simp only [evalP]
  all_goals rfl
end
end Go.Proofs.Ytcaemgpificohaa.A
/- The same machine: of two alike the document's Same answers true. -/
namespace Go.Proofs.Ytcaemgpificohaa.A
open Go
set_option maxRecDepth 20000
/-! ### the same machine -/
theorem aBin_aggneq (P : Program) (t : TypeId) (x y : List AV) : aBin P .neq t (.agg x) (.agg y) = (eqLeaves P t).bind fun l => (eqLeafs l x y).map fun z => .bool (!z) := rfl
theorem aBin_aggeql (P : Program) (t : TypeId) (x y : List AV) : aBin P .eql t (.agg x) (.agg y) = (eqLeaves P t).bind fun l => (eqLeafs l x y).map .bool := rfl
theorem leaves_step : eqLeaves Try.prog 48 = some [.int, .int, .int] := by kernel_rfl
theorem leaves_pair : eqLeaves Try.prog 49 = some [.int, .int] := by kernel_rfl
theorem eqLeafs3 (a b c a' b' c' : Int) : eqLeafs [.int, .int, .int] [.int .i64 a, .int .i64 b, .int .i64 c] [.int .i64 a', .int .i64 b', .int .i64 c'] = some (decide (a = a') && (decide (b = b') && (decide (c = c') && true))) := by
  simp only [eqLeafs, eqLeaf, if_true]; rfl
theorem eqLeafs2 (a b a' b' : Int) : eqLeafs [.int, .int] [.int .i64 a, .int .i64 b] [.int .i64 a', .int .i64 b'] = some (decide (a = a') && (decide (b = b') && true)) := by
  simp only [eqLeafs, eqLeaf, if_true]; rfl
theorem lookSame (X) : lookedAt (EX md0 X) (fun _ => none) 2 Try.f17 = true := by kernel_rfl
theorem same_ok (N S F : Int) (ss : List (Int × Int × Int)) (fs : List (Int × Int)) (hs : ss.length ≤ 100000) (hf : fs.length ≤ 100000) : Ok Try.prog 17 [nfaV N S F ss fs, nfaV N S F ss fs] (.bool true) := by
  refine ok_of_WP (E := EX md0 (fun _ _ => none)) (cr := noR) (cp_none _) (noR_ok _) mixed (k := 100002) Try.func17 (lookSame _) rfl ?_
  simp only [Try.f17, Option.getD_some]
  have e1 := leaves_step
  have e2 := leaves_pair
  simp (disch := omega) only [go_sem, ↓IntWalk.iteOmega, IntWalk.toNatUp, Nat.reduceEqDiff, Nat.reduceAdd, Nat.reduceMul, Nat.reduceSub, Nat.reduceLT, Nat.reduceLeDiff, Int.reduceToNat, Int.reduceLT, Int.reduceLE, Int.reduceEq, Int.reduceAdd, Int.reduceSub, Int.reduceMul, Int.toNat_natCast, reduceCtorEq, decide_true, decide_false, IntWalk.i64_in, IntWalk.u64_in, IntWalk.u8_in]
  refine WP_loop (fun m a o nx => ∃ i : Nat, i ≤ ss.length ∧ m = ss.length - i ∧ a 2 = .ptr (0, 2) (0, 2) 0 ∧ a 3 = .ptr (0, 3) (0, 3) 0 ∧ a 5 = .int .i64 i ∧ o (0, 2) = some (.row ⟨28, 1, (0, 2), false, true, [.int .i64 N, .int .i64 S, .int .i64 F, .sl ss.length (cS ss), .sl fs.length (cP fs)]⟩) ∧ o (0, 3) = some (.row ⟨28, 1, (0, 3), false, true, [.int .i64 N, .int .i64 S, .int .i64 F, .sl ss.length (cS ss), .sl fs.length (cP fs)]⟩)) ss.length (by omega) ⟨0, by omega, by omega, by simp (disch := omega) only [go_sem, ↓IntWalk.iteOmega, IntWalk.toNatUp, Nat.reduceEqDiff, Nat.reduceAdd, Nat.reduceMul, Nat.reduceSub, Nat.reduceLT, Nat.reduceLeDiff, Int.reduceToNat, Int.reduceLT, Int.reduceLE, Int.reduceEq, Int.reduceAdd, Int.reduceSub, Int.reduceMul, Int.toNat_natCast, reduceCtorEq, decide_true, decide_false, IntWalk.i64_in, IntWalk.u64_in, IntWalk.u8_in], by simp (disch := omega) only [go_sem, ↓IntWalk.iteOmega, IntWalk.toNatUp, Nat.reduceEqDiff, Nat.reduceAdd, Nat.reduceMul, Nat.reduceSub, Nat.reduceLT, Nat.reduceLeDiff, Int.reduceToNat, Int.reduceLT, Int.reduceLE, Int.reduceEq, Int.reduceAdd, Int.reduceSub, Int.reduceMul, Int.toNat_natCast, reduceCtorEq, decide_true, decide_false, IntWalk.i64_in, IntWalk.u64_in, IntWalk.u8_in], by simp (disch := omega) only [go_sem, ↓IntWalk.iteOmega, IntWalk.toNatUp, Nat.reduceEqDiff, Nat.reduceAdd, Nat.reduceMul, Nat.reduceSub, Nat.reduceLT, Nat.reduceLeDiff, Int.reduceToNat, Int.reduceLT, Int.reduceLE, Int.reduceEq, Int.reduceAdd, Int.reduceSub, Int.reduceMul, Int.toNat_natCast, reduceCtorEq, decide_true, decide_false, IntWalk.i64_in, IntWalk.u64_in, IntWalk.u8_in], by simp [upd_app], by simp [upd_app]⟩ ?_
  rintro m a o nx ⟨i, hi, rfl, h2, h3, h5, o2, o3⟩
  by_cases hlt : i < ss.length
  · have hat := cS_at hlt
    simp (disch := omega) only [go_sem, ↓IntWalk.iteOmega, IntWalk.toNatUp, Nat.reduceEqDiff, Nat.reduceAdd, Nat.reduceMul, Nat.reduceSub, Nat.reduceLT, Nat.reduceLeDiff, Int.reduceToNat, Int.reduceLT, Int.reduceLE, Int.reduceEq, Int.reduceAdd, Int.reduceSub, Int.reduceMul, Int.toNat_natCast, reduceCtorEq, decide_true, decide_false, IntWalk.i64_in, IntWalk.u64_in, IntWalk.u8_in, h2, h3, h5, o2, o3, hat, aBin_aggneq, e1, eqLeafs3, decide_true]
    exact ⟨_, by omega, i + 1, by omega, rfl, rfl⟩
  · simp (disch := omega) only [go_sem, ↓IntWalk.iteOmega, IntWalk.toNatUp, Nat.reduceEqDiff, Nat.reduceAdd, Nat.reduceMul, Nat.reduceSub, Nat.reduceLT, Nat.reduceLeDiff, Int.reduceToNat, Int.reduceLT, Int.reduceLE, Int.reduceEq, Int.reduceAdd, Int.reduceSub, Int.reduceMul, Int.toNat_natCast, reduceCtorEq, decide_true, decide_false, IntWalk.i64_in, IntWalk.u64_in, IntWalk.u8_in, h2, h3, h5, o2, o3]
    clear h5
    refine WP_loop (fun m a o nx => ∃ i : Nat, i ≤ fs.length ∧ m = fs.length - i ∧ a 2 = .ptr (0, 2) (0, 2) 0 ∧ a 3 = .ptr (0, 3) (0, 3) 0 ∧ a 6 = .int .i64 i ∧ o (0, 2) = some (.row ⟨28, 1, (0, 2), false, true, [.int .i64 N, .int .i64 S, .int .i64 F, .sl ss.length (cS ss), .sl fs.length (cP fs)]⟩) ∧ o (0, 3) = some (.row ⟨28, 1, (0, 3), false, true, [.int .i64 N, .int .i64 S, .int .i64 F, .sl ss.length (cS ss), .sl fs.length (cP fs)]⟩)) fs.length (by omega) ⟨0, by omega, by omega, by simp (disch := omega) only [go_sem, ↓IntWalk.iteOmega, IntWalk.toNatUp, Nat.reduceEqDiff, Nat.reduceAdd, Nat.reduceMul, Nat.reduceSub, Nat.reduceLT, Nat.reduceLeDiff, Int.reduceToNat, Int.reduceLT, Int.reduceLE, Int.reduceEq, Int.reduceAdd, Int.reduceSub, Int.reduceMul, Int.toNat_natCast, reduceCtorEq, decide_true, decide_false, IntWalk.i64_in, IntWalk.u64_in, IntWalk.u8_in, h2], by simp (disch := omega) only [go_sem, ↓IntWalk.iteOmega, IntWalk.toNatUp, Nat.reduceEqDiff, Nat.reduceAdd, Nat.reduceMul, Nat.reduceSub, Nat.reduceLT, Nat.reduceLeDiff, Int.reduceToNat, Int.reduceLT, Int.reduceLE, Int.reduceEq, Int.reduceAdd, Int.reduceSub, Int.reduceMul, Int.toNat_natCast, reduceCtorEq, decide_true, decide_false, IntWalk.i64_in, IntWalk.u64_in, IntWalk.u8_in, h3], by simp (disch := omega) only [go_sem, ↓IntWalk.iteOmega, IntWalk.toNatUp, Nat.reduceEqDiff, Nat.reduceAdd, Nat.reduceMul, Nat.reduceSub, Nat.reduceLT, Nat.reduceLeDiff, Int.reduceToNat, Int.reduceLT, Int.reduceLE, Int.reduceEq, Int.reduceAdd, Int.reduceSub, Int.reduceMul, Int.toNat_natCast, reduceCtorEq, decide_true, decide_false, IntWalk.i64_in, IntWalk.u64_in, IntWalk.u8_in], o2, o3⟩ ?_
    clear h2 h3 o2 o3 hi hlt
    rintro m a o nx ⟨i, hi, rfl, h2, h3, h6, o2, o3⟩
    by_cases hlt : i < fs.length
    · have hat := cP_at hlt
      simp (disch := omega) only [go_sem, ↓IntWalk.iteOmega, IntWalk.toNatUp, Nat.reduceEqDiff, Nat.reduceAdd, Nat.reduceMul, Nat.reduceSub, Nat.reduceLT, Nat.reduceLeDiff, Int.reduceToNat, Int.reduceLT, Int.reduceLE, Int.reduceEq, Int.reduceAdd, Int.reduceSub, Int.reduceMul, Int.toNat_natCast, reduceCtorEq, decide_true, decide_false, IntWalk.i64_in, IntWalk.u64_in, IntWalk.u8_in, h2, h3, h6, o2, o3, hat, aBin_aggneq, e2, eqLeafs2, decide_true]
      exact ⟨_, by omega, i + 1, by omega, rfl, rfl⟩
    · simp (disch := omega) only [go_sem, ↓IntWalk.iteOmega, IntWalk.toNatUp, Nat.reduceEqDiff, Nat.reduceAdd, Nat.reduceMul, Nat.reduceSub, Nat.reduceLT, Nat.reduceLeDiff, Int.reduceToNat, Int.reduceLT, Int.reduceLE, Int.reduceEq, Int.reduceAdd, Int.reduceSub, Int.reduceMul, Int.toNat_natCast, reduceCtorEq, decide_true, decide_false, IntWalk.i64_in, IntWalk.u64_in, IntWalk.u8_in, h2, h3, h6, o2, o3]
end Go.Proofs.Ytcaemgpificohaa.A
