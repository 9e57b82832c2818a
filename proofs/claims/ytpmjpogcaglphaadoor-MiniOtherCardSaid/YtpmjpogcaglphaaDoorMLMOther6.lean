/- Facts on the types' table, on how functions are called. -/
import Derived.Test.YtpmjpogcaglphaaDoorMLMOther5
import Derived.Test.YtpmjpogcaglphaaDoorMLMOther3
set_option linter.unusedVariables false
set_option linter.unusedSimpArgs false
set_option linter.unnecessarySimpa false
namespace Go.Proofs.YtpmjpogcaglphaaDoor.A
open Go
noncomputable def EX (md : FuncId → Mode) (X : FuncId → List AV → Option AV) : Env := ⟨Tryd.prog, md, X⟩
@[go_sem] theorem dt9 (md X) : (EX md X).P = Tryd.prog := rfl
@[go_sem] theorem du0 (md X g) : (EX md X).mode g = md g := rfl
@[go_sem] theorem du1 (md X g as_) : (EX md X).ext g as_ = X g as_ := rfl
@[go_sem] theorem T3s : l7 Tryd.prog 3 = some 1 := by kernel_rfl
@[go_sem] theorem T3a : H5 Tryd.prog 3 = some false := by kernel_rfl
@[go_sem] theorem T4s : l7 Tryd.prog 4 = some 1 := by kernel_rfl
@[go_sem] theorem T4a : H5 Tryd.prog 4 = some false := by kernel_rfl
@[go_sem] theorem du2 (x y) : G3 Tryd.prog .eql 4 (.bool x) (.bool y) = some (.bool (x == y)) := by5 (by kernel_rfl) x y
@[go_sem] theorem du3 (x y) : G3 Tryd.prog .neq 4 (.bool x) (.bool y) = some (.bool (!(x == y))) := by6 (by kernel_rfl) x y
@[go_sem] theorem T9s : l7 Tryd.prog 9 = some 1 := by kernel_rfl
@[go_sem] theorem T9a : H5 Tryd.prog 9 = some false := by kernel_rfl
@[go_sem] theorem du4 (x i) : R3 Tryd.prog 9 (.str x) i = if 0 ≤ i then (x[i.toNat]?).map fun b => .int .u8 b.toNat else none := bS2 (by kernel_rfl) x i
@[go_sem] theorem du5 (o x) : N4 Tryd.prog o 9 (.str x) = some (.int .i64 x.length) := cm6 (by kernel_rfl) o x
@[go_sem] theorem du6 : l7 Tryd.prog 22 = some 1 := by kernel_rfl
@[go_sem] theorem du7 : H5 Tryd.prog 22 = some false := by kernel_rfl
@[go_sem] theorem da2 (o) : N4 Tryd.prog o 22 .nil = some (.int .i64 0) := au3 (e := 3) (by kernel_rfl) o
@[go_sem] theorem da3 (o n cs) : N4 Tryd.prog o 22 (.sl n cs) = some (.int .i64 n) := aD9 (e := 3) (by kernel_rfl) o n cs
@[go_sem] theorem da4 (o k g off n) : N4 Tryd.prog o 22 (.ref k g off n) = some (.int .i64 n) := W8 (e := 3) (by kernel_rfl) o k g off n
@[go_sem] theorem da5 (n cs i) : j0 Tryd.prog 22 (.sl n cs) i = if 0 ≤ i ∧ i < (n : Int) then some (.fptr (cs.drop (i.toNat * 1))) else none := aa0 (s := 1) (by kernel_rfl) n cs i
@[go_sem] theorem da6 (k g off n i) : j0 Tryd.prog 22 (.ref k g off n) i = if 0 ≤ i ∧ i < (n : Int) then some (.ptr k g (off + i.toNat * 1)) else none := Q7 (s := 1) (by kernel_rfl) k g off n i
@[go_sem] theorem da7 (k g off n lo hi) : R8 Tryd.prog 22 (.ref k g off n) lo hi = if 0 ≤ lo.getD 0 ∧ lo.getD 0 ≤ hi.getD n ∧ hi.getD n ≤ n then some (.ref k g (off + (lo.getD 0).toNat * 1) ((hi.getD n).toNat - (lo.getD 0).toNat)) else none := bh6 (s := 0) (by kernel_rfl) k g off n lo hi
@[go_sem] theorem dl8 (k g off n x o nx) : Q0 Tryd.prog 22 (.ref k g off n) x ⟨o, nx⟩ = (D0 o x).bind fun q => (N0 (o k) g).bind (aE1 k off n 1 q.1 q.2 o nx) := aE2 (by kernel_rfl) k g off n x o nx
@[go_sem] theorem dl9 (tg l c o nx) : q8 Tryd.prog tg 22 l c ⟨o, nx⟩ = if 0 ≤ l ∧ l ≤ c ∧ c * 8 ≤ V5 ∧ c ≤ V5 then some (.ref tg tg 0 l.toNat, ⟨upd o tg (.row ⟨3, 1, tg, false, true, rep [AV.int .i64 0] l.toNat⟩), nx⟩) else none := aE0 (e := 3) (s := 0) (b := 8) (z := [AV.int .i64 0]) (by kernel_rfl) (by kernel_rfl) (by kernel_rfl) (by kernel_rfl) rfl tg l c o nx
@[go_sem] theorem dm0 (tg n ps o nx) : l8 Tryd.prog tg 22 n ps ⟨o, nx⟩ = if n * 1 ≤ 16777216 then (x6 (fun i => some (i * 1, 1)) (rep [AV.int .i64 0] n) ps).map (fun cs => (.ref tg tg 0 n, ⟨upd o tg (.row ⟨3, 1, tg, false, true, cs⟩), nx⟩)) else none := ai0 (e := 3) (s := 0) (z := [AV.int .i64 0]) (by kernel_rfl) (by kernel_rfl) (by kernel_rfl) rfl tg n ps o nx
@[go_sem] theorem dm1 (tg x y o nx) : u3 Tryd.prog tg 22 22 x y ⟨o, nx⟩ = (D0 o y).bind fun q => aI4 tg 3 1 8 x q.1 q.2 o nx := am8 (e := 3) (s := 0) (b := 7) (z := [AV.int .i64 0]) (by kernel_rfl) (by kernel_rfl) (by kernel_rfl) (by kernel_rfl) rfl (by kernel_rfl) tg x y o nx
@[go_sem] theorem du8 : l7 Tryd.prog 24 = some 1 := by kernel_rfl
@[go_sem] theorem du9 : H5 Tryd.prog 24 = some false := by kernel_rfl
@[go_sem] theorem da8 (o n cs) : N4 Tryd.prog o 24 (.sl n cs) = some (.int .i64 n) := aD9 (e := 54) (by kernel_rfl) o n cs
@[go_sem] theorem da9 (o k g off n) : N4 Tryd.prog o 24 (.ref k g off n) = some (.int .i64 n) := W8 (e := 54) (by kernel_rfl) o k g off n
@[go_sem] theorem db0 (n cs i) : j0 Tryd.prog 24 (.sl n cs) i = if 0 ≤ i ∧ i < (n : Int) then some (.fptr (cs.drop (i.toNat * 5))) else none := aa0 (s := 5) (by kernel_rfl) n cs i
@[go_sem] theorem dm2 (k g off n x o nx) : Q0 Tryd.prog 24 (.ref k g off n) x ⟨o, nx⟩ = (D0 o x).bind fun q => (N0 (o k) g).bind (aE1 k off n 5 q.1 q.2 o nx) := aE2 (by kernel_rfl) k g off n x o nx
@[go_sem] theorem dm3 (tg l c o nx) : q8 Tryd.prog tg 24 l c ⟨o, nx⟩ = if 0 ≤ l ∧ l ≤ c ∧ c * 40 ≤ V5 ∧ c ≤ V5 then some (.ref tg tg 0 l.toNat, ⟨upd o tg (.row ⟨54, 5, tg, false, true, rep [AV.int .i64 0, AV.int .i64 0, AV.int .i64 0, AV.int .i64 0, AV.int .i64 0] l.toNat⟩), nx⟩) else none := aE0 (e := 54) (s := 4) (b := 40) (z := [AV.int .i64 0, AV.int .i64 0, AV.int .i64 0, AV.int .i64 0, AV.int .i64 0]) (by kernel_rfl) (by kernel_rfl) (by kernel_rfl) (by kernel_rfl) rfl tg l c o nx
@[go_sem] theorem dm4 (tg n ps o nx) : l8 Tryd.prog tg 24 n ps ⟨o, nx⟩ = if n * 5 ≤ 16777216 then (x6 (fun i => some (i * 5, 5)) (rep [AV.int .i64 0, AV.int .i64 0, AV.int .i64 0, AV.int .i64 0, AV.int .i64 0] n) ps).map (fun cs => (.ref tg tg 0 n, ⟨upd o tg (.row ⟨54, 5, tg, false, true, cs⟩), nx⟩)) else none := ai0 (e := 54) (s := 4) (z := [AV.int .i64 0, AV.int .i64 0, AV.int .i64 0, AV.int .i64 0, AV.int .i64 0]) (by kernel_rfl) (by kernel_rfl) (by kernel_rfl) rfl tg n ps o nx
@[go_sem] theorem dm5 (tg x y o nx) : u3 Tryd.prog tg 24 24 x y ⟨o, nx⟩ = (D0 o y).bind fun q => aI4 tg 54 5 40 x q.1 q.2 o nx := am8 (e := 54) (s := 4) (b := 39) (z := [AV.int .i64 0, AV.int .i64 0, AV.int .i64 0, AV.int .i64 0, AV.int .i64 0]) (by kernel_rfl) (by kernel_rfl) (by kernel_rfl) (by kernel_rfl) rfl (by kernel_rfl) tg x y o nx
@[go_sem] theorem dv0 : l7 Tryd.prog 25 = some 1 := by kernel_rfl
@[go_sem] theorem dv1 : H5 Tryd.prog 25 = some false := by kernel_rfl
@[go_sem] theorem db1 (o n cs) : N4 Tryd.prog o 25 (.sl n cs) = some (.int .i64 n) := aD9 (e := 4) (by kernel_rfl) o n cs
@[go_sem] theorem db2 (o k g off n) : N4 Tryd.prog o 25 (.ref k g off n) = some (.int .i64 n) := W8 (e := 4) (by kernel_rfl) o k g off n
@[go_sem] theorem db3 (n cs i) : j0 Tryd.prog 25 (.sl n cs) i = if 0 ≤ i ∧ i < (n : Int) then some (.fptr (cs.drop (i.toNat * 1))) else none := aa0 (s := 1) (by kernel_rfl) n cs i
@[go_sem] theorem db4 (k g off n i) : j0 Tryd.prog 25 (.ref k g off n) i = if 0 ≤ i ∧ i < (n : Int) then some (.ptr k g (off + i.toNat * 1)) else none := Q7 (s := 1) (by kernel_rfl) k g off n i
@[go_sem] theorem dm6 (k g off n x o nx) : Q0 Tryd.prog 25 (.ref k g off n) x ⟨o, nx⟩ = (D0 o x).bind fun q => (N0 (o k) g).bind (aE1 k off n 1 q.1 q.2 o nx) := aE2 (by kernel_rfl) k g off n x o nx
@[go_sem] theorem dm7 (tg l c o nx) : q8 Tryd.prog tg 25 l c ⟨o, nx⟩ = if 0 ≤ l ∧ l ≤ c ∧ c * 1 ≤ V5 ∧ c ≤ V5 then some (.ref tg tg 0 l.toNat, ⟨upd o tg (.row ⟨4, 1, tg, false, true, rep [AV.bool false] l.toNat⟩), nx⟩) else none := aE0 (e := 4) (s := 0) (b := 1) (z := [AV.bool false]) (by kernel_rfl) (by kernel_rfl) (by kernel_rfl) (by kernel_rfl) rfl tg l c o nx
@[go_sem] theorem dm8 (tg n ps o nx) : l8 Tryd.prog tg 25 n ps ⟨o, nx⟩ = if n * 1 ≤ 16777216 then (x6 (fun i => some (i * 1, 1)) (rep [AV.bool false] n) ps).map (fun cs => (.ref tg tg 0 n, ⟨upd o tg (.row ⟨4, 1, tg, false, true, cs⟩), nx⟩)) else none := ai0 (e := 4) (s := 0) (z := [AV.bool false]) (by kernel_rfl) (by kernel_rfl) (by kernel_rfl) rfl tg n ps o nx
@[go_sem] theorem dm9 (tg x y o nx) : u3 Tryd.prog tg 25 25 x y ⟨o, nx⟩ = (D0 o y).bind fun q => aI4 tg 4 1 1 x q.1 q.2 o nx := am8 (e := 4) (s := 0) (b := 0) (z := [AV.bool false]) (by kernel_rfl) (by kernel_rfl) (by kernel_rfl) (by kernel_rfl) rfl (by kernel_rfl) tg x y o nx
@[go_sem] theorem dv2 : l7 Tryd.prog 27 = some 2 := by kernel_rfl
@[go_sem] theorem dv3 : H5 Tryd.prog 27 = some true := by kernel_rfl
@[go_sem] theorem dv4 : F6 Tryd.prog 27 = some [AV.nil, AV.nil] := by kernel_rfl
@[go_sem] theorem db5 (k g off) : d5 Tryd.prog 27 0 (.ptr k g off) = some (.ptr k g (off + 0)) := u4 (s := 0) (ft := 24) (by kernel_rfl) (by kernel_rfl) k g off
@[go_sem] theorem db6 (cs) : d5 Tryd.prog 27 0 (.fptr cs) = some (.fptr (cs.drop 0)) := S8 (s := 0) (ft := 24) (by kernel_rfl) (by kernel_rfl) cs
@[go_sem] theorem db7 (k g off) : d5 Tryd.prog 27 1 (.ptr k g off) = some (.ptr k g (off + 1)) := u4 (s := 0) (ft := 25) (by kernel_rfl) (by kernel_rfl) k g off
@[go_sem] theorem dn0 (xs) : C9 Tryd.prog 27 xs = (x6 (fun i => ([(0, 1), (1, 1)] : List (Nat × Nat))[i]?) [AV.nil, AV.nil] xs).map .agg := by kernel_rfl
@[go_sem] theorem dv5 : l7 Tryd.prog 33 = some 1 := by kernel_rfl
@[go_sem] theorem dv6 : H5 Tryd.prog 33 = some false := by kernel_rfl
@[go_sem] theorem db8 (o n cs) : N4 Tryd.prog o 33 (.sl n cs) = some (.int .i64 n) := aD9 (e := 75) (by kernel_rfl) o n cs
@[go_sem] theorem db9 (n cs i) : j0 Tryd.prog 33 (.sl n cs) i = if 0 ≤ i ∧ i < (n : Int) then some (.fptr (cs.drop (i.toNat * 3))) else none := aa0 (s := 3) (by kernel_rfl) n cs i
@[go_sem] theorem dv7 : l7 Tryd.prog 35 = some 1 := by kernel_rfl
@[go_sem] theorem dv8 : H5 Tryd.prog 35 = some false := by kernel_rfl
@[go_sem] theorem dc0 (o) : N4 Tryd.prog o 35 .nil = some (.int .i64 0) := au3 (e := 37) (by kernel_rfl) o
@[go_sem] theorem dc1 (o n cs) : N4 Tryd.prog o 35 (.sl n cs) = some (.int .i64 n) := aD9 (e := 37) (by kernel_rfl) o n cs
@[go_sem] theorem dc2 (o k g off n) : N4 Tryd.prog o 35 (.ref k g off n) = some (.int .i64 n) := W8 (e := 37) (by kernel_rfl) o k g off n
@[go_sem] theorem dc3 (n cs i) : j0 Tryd.prog 35 (.sl n cs) i = if 0 ≤ i ∧ i < (n : Int) then some (.fptr (cs.drop (i.toNat * 5))) else none := aa0 (s := 5) (by kernel_rfl) n cs i
@[go_sem] theorem dc4 (k g off n i) : j0 Tryd.prog 35 (.ref k g off n) i = if 0 ≤ i ∧ i < (n : Int) then some (.ptr k g (off + i.toNat * 5)) else none := Q7 (s := 5) (by kernel_rfl) k g off n i
@[go_sem] theorem dn1 (tg l c o nx) : q8 Tryd.prog tg 35 l c ⟨o, nx⟩ = if 0 ≤ l ∧ l ≤ c ∧ c * 56 ≤ V5 ∧ c ≤ V5 then some (.ref tg tg 0 l.toNat, ⟨upd o tg (.row ⟨37, 5, tg, false, true, rep [AV.int .i64 0, AV.int .i64 0, AV.int .i64 0, AV.int .i64 0, AV.nil] l.toNat⟩), nx⟩) else none := aE0 (e := 37) (s := 4) (b := 56) (z := [AV.int .i64 0, AV.int .i64 0, AV.int .i64 0, AV.int .i64 0, AV.nil]) (by kernel_rfl) (by kernel_rfl) (by kernel_rfl) (by kernel_rfl) rfl tg l c o nx
@[go_sem] theorem dn2 (tg n ps o nx) : l8 Tryd.prog tg 35 n ps ⟨o, nx⟩ = if n * 5 ≤ 16777216 then (x6 (fun i => some (i * 5, 5)) (rep [AV.int .i64 0, AV.int .i64 0, AV.int .i64 0, AV.int .i64 0, AV.nil] n) ps).map (fun cs => (.ref tg tg 0 n, ⟨upd o tg (.row ⟨37, 5, tg, false, true, cs⟩), nx⟩)) else none := ai0 (e := 37) (s := 4) (z := [AV.int .i64 0, AV.int .i64 0, AV.int .i64 0, AV.int .i64 0, AV.nil]) (by kernel_rfl) (by kernel_rfl) (by kernel_rfl) rfl tg n ps o nx
@[go_sem] theorem dn3 (tg x y o nx) : u3 Tryd.prog tg 35 35 x y ⟨o, nx⟩ = (D0 o y).bind fun q => aI4 tg 37 5 56 x q.1 q.2 o nx := am8 (e := 37) (s := 4) (b := 55) (z := [AV.int .i64 0, AV.int .i64 0, AV.int .i64 0, AV.int .i64 0, AV.nil]) (by kernel_rfl) (by kernel_rfl) (by kernel_rfl) (by kernel_rfl) rfl (by kernel_rfl) tg x y o nx
@[go_sem] theorem dv9 : l7 Tryd.prog 37 = some 5 := by kernel_rfl
@[go_sem] theorem dw0 : H5 Tryd.prog 37 = some true := by kernel_rfl
@[go_sem] theorem dw1 : F6 Tryd.prog 37 = some [AV.int .i64 0, AV.int .i64 0, AV.int .i64 0, AV.int .i64 0, AV.nil] := by kernel_rfl
@[go_sem] theorem dc5 (k g off) : d5 Tryd.prog 37 0 (.ptr k g off) = some (.ptr k g (off + 0)) := u4 (s := 0) (ft := 3) (by kernel_rfl) (by kernel_rfl) k g off
@[go_sem] theorem dc6 (cs) : aD8 Tryd.prog 37 0 (.agg cs) = P0 Tryd.prog 3 (cs.drop 0) := cm5 (by kernel_rfl) cs
@[go_sem] theorem dc7 (k g off) : d5 Tryd.prog 37 1 (.ptr k g off) = some (.ptr k g (off + 1)) := u4 (s := 0) (ft := 3) (by kernel_rfl) (by kernel_rfl) k g off
@[go_sem] theorem dc8 (k g off) : d5 Tryd.prog 37 2 (.ptr k g off) = some (.ptr k g (off + 2)) := u4 (s := 0) (ft := 3) (by kernel_rfl) (by kernel_rfl) k g off
@[go_sem] theorem dc9 (k g off) : d5 Tryd.prog 37 3 (.ptr k g off) = some (.ptr k g (off + 3)) := u4 (s := 0) (ft := 3) (by kernel_rfl) (by kernel_rfl) k g off
@[go_sem] theorem dd0 (k g off) : d5 Tryd.prog 37 4 (.ptr k g off) = some (.ptr k g (off + 4)) := u4 (s := 0) (ft := 35) (by kernel_rfl) (by kernel_rfl) k g off
@[go_sem] theorem dn4 (xs) : C9 Tryd.prog 37 xs = (x6 (fun i => ([(0, 1), (1, 1), (2, 1), (3, 1), (4, 1)] : List (Nat × Nat))[i]?) [AV.int .i64 0, AV.int .i64 0, AV.int .i64 0, AV.int .i64 0, AV.nil] xs).map .agg := by kernel_rfl
@[go_sem] theorem dw2 : l7 Tryd.prog 54 = some 5 := by kernel_rfl
@[go_sem] theorem dw3 : H5 Tryd.prog 54 = some true := by kernel_rfl
@[go_sem] theorem dw4 : F6 Tryd.prog 54 = some [AV.int .i64 0, AV.int .i64 0, AV.int .i64 0, AV.int .i64 0, AV.int .i64 0] := by kernel_rfl
@[go_sem] theorem dd1 (cs i) : j0 Tryd.prog 54 (.fptr cs) i = if 0 ≤ i ∧ i < 5 then some (.fptr (cs.drop (i.toNat * 1))) else none := by0 (n := 5) (e := 3) (s := 1) (by kernel_rfl) (by kernel_rfl) cs i
@[go_sem] theorem dd2 (k g off i) : j0 Tryd.prog 54 (.ptr k g off) i = if 0 ≤ i ∧ i < 5 then some (.ptr k g (off + i.toNat * 1)) else none := aK7 (n := 5) (e := 3) (s := 1) (by kernel_rfl) (by kernel_rfl) k g off i
@[go_sem] theorem dn5 (cs i) : R3 Tryd.prog 54 (.agg cs) i = if 0 ≤ i ∧ i < 5 then P0 Tryd.prog 3 (cs.drop (i.toNat * 1)) else none := bS1 (n := 5) (e := 3) (s := 1) (by kernel_rfl) (by kernel_rfl) cs i
@[go_sem] theorem cP0 : D6 Tryd.prog 54 = some [Leaf.int, Leaf.int, Leaf.int, Leaf.int, Leaf.int] := by kernel_rfl
@[go_sem] theorem dd3 (cs) : d5 Tryd.prog 66 0 (.fptr cs) = some (.fptr (cs.drop 0)) := S8 (s := 1) (ft := 27) (by kernel_rfl) (by kernel_rfl) cs
@[go_sem] theorem dd4 (k g off) : d5 Tryd.prog 66 1 (.ptr k g off) = some (.ptr k g (off + 2)) := u4 (s := 0) (ft := 22) (by kernel_rfl) (by kernel_rfl) k g off
@[go_sem] theorem dd5 (cs) : d5 Tryd.prog 66 1 (.fptr cs) = some (.fptr (cs.drop 2)) := S8 (s := 0) (ft := 22) (by kernel_rfl) (by kernel_rfl) cs
@[go_sem] theorem dn6 (xs) : C9 Tryd.prog 66 xs = (x6 (fun i => ([(0, 2), (2, 1)] : List (Nat × Nat))[i]?) [AV.nil, AV.nil, AV.nil] xs).map .agg := by kernel_rfl
@[go_sem] theorem dn7 (m s ok o nx) : G5 Tryd.prog 68 (.mp m) (.int .i64 s) ok ⟨o, nx⟩ = (an0 (o m)).bind fun es => (G4 (.int .i64 s) es).map (lkV ok (AV.int .i64 0)) := bT4 (kt := 3) (et := 3) (z := (AV.int .i64 0)) (k := .int .i64 s) (by kernel_rfl) (by kernel_rfl) (by kernel_rfl) m ok o nx
@[go_sem] theorem dn8 (m s v o nx) : l6 Tryd.prog 68 (.mp m) (.int .i64 s) v ⟨o, nx⟩ = (an0 (o m)).bind (bd7 m (.int .i64 s) v o nx) := bT5 (kt := 3) (et := 3) (k := .int .i64 s) (by kernel_rfl) (by kernel_rfl) m v o nx
@[go_sem] theorem dw5 : l7 Tryd.prog 75 = some 3 := by kernel_rfl
@[go_sem] theorem dw6 : H5 Tryd.prog 75 = some true := by kernel_rfl
@[go_sem] theorem dd6 (k g off) : d5 Tryd.prog 75 0 (.ptr k g off) = some (.ptr k g (off + 0)) := u4 (s := 0) (ft := 3) (by kernel_rfl) (by kernel_rfl) k g off
@[go_sem] theorem dd7 (k g off) : d5 Tryd.prog 75 1 (.ptr k g off) = some (.ptr k g (off + 1)) := u4 (s := 0) (ft := 3) (by kernel_rfl) (by kernel_rfl) k g off
@[go_sem] theorem dd8 (k g off) : d5 Tryd.prog 75 2 (.ptr k g off) = some (.ptr k g (off + 2)) := u4 (s := 0) (ft := 33) (by kernel_rfl) (by kernel_rfl) k g off
@[go_sem] theorem dd9 (cs) : d5 Tryd.prog 75 2 (.fptr cs) = some (.fptr (cs.drop 2)) := S8 (s := 0) (ft := 33) (by kernel_rfl) (by kernel_rfl) cs
@[go_sem] theorem dw7 : l7 Tryd.prog 79 = some 1 := by kernel_rfl
@[go_sem] theorem dw8 : H5 Tryd.prog 79 = some false := by kernel_rfl
@[go_sem] theorem de0 (o) : N4 Tryd.prog o 79 .nil = some (.int .i64 0) := au3 (e := 145) (by kernel_rfl) o
@[go_sem] theorem de1 (o n cs) : N4 Tryd.prog o 79 (.sl n cs) = some (.int .i64 n) := aD9 (e := 145) (by kernel_rfl) o n cs
@[go_sem] theorem de2 (o k g off n) : N4 Tryd.prog o 79 (.ref k g off n) = some (.int .i64 n) := W8 (e := 145) (by kernel_rfl) o k g off n
@[go_sem] theorem de3 (n cs i) : j0 Tryd.prog 79 (.sl n cs) i = if 0 ≤ i ∧ i < (n : Int) then some (.fptr (cs.drop (i.toNat * 3))) else none := aa0 (s := 3) (by kernel_rfl) n cs i
@[go_sem] theorem de4 (k g off n i) : j0 Tryd.prog 79 (.ref k g off n) i = if 0 ≤ i ∧ i < (n : Int) then some (.ptr k g (off + i.toNat * 3)) else none := Q7 (s := 3) (by kernel_rfl) k g off n i
@[go_sem] theorem dn9 (k g off n x o nx) : Q0 Tryd.prog 79 (.ref k g off n) x ⟨o, nx⟩ = (D0 o x).bind fun q => (N0 (o k) g).bind (aE1 k off n 3 q.1 q.2 o nx) := aE2 (by kernel_rfl) k g off n x o nx
@[go_sem] theorem do0 (tg l c o nx) : q8 Tryd.prog tg 79 l c ⟨o, nx⟩ = if 0 ≤ l ∧ l ≤ c ∧ c * 24 ≤ V5 ∧ c ≤ V5 then some (.ref tg tg 0 l.toNat, ⟨upd o tg (.row ⟨145, 3, tg, false, true, rep [AV.int .i64 0, AV.int .i64 0, AV.int .i64 0] l.toNat⟩), nx⟩) else none := aE0 (e := 145) (s := 2) (b := 24) (z := [AV.int .i64 0, AV.int .i64 0, AV.int .i64 0]) (by kernel_rfl) (by kernel_rfl) (by kernel_rfl) (by kernel_rfl) rfl tg l c o nx
@[go_sem] theorem do1 (tg n ps o nx) : l8 Tryd.prog tg 79 n ps ⟨o, nx⟩ = if n * 3 ≤ 16777216 then (x6 (fun i => some (i * 3, 3)) (rep [AV.int .i64 0, AV.int .i64 0, AV.int .i64 0] n) ps).map (fun cs => (.ref tg tg 0 n, ⟨upd o tg (.row ⟨145, 3, tg, false, true, cs⟩), nx⟩)) else none := ai0 (e := 145) (s := 2) (z := [AV.int .i64 0, AV.int .i64 0, AV.int .i64 0]) (by kernel_rfl) (by kernel_rfl) (by kernel_rfl) rfl tg n ps o nx
@[go_sem] theorem do2 (tg x y o nx) : u3 Tryd.prog tg 79 79 x y ⟨o, nx⟩ = (D0 o y).bind fun q => aI4 tg 145 3 24 x q.1 q.2 o nx := am8 (e := 145) (s := 2) (b := 23) (z := [AV.int .i64 0, AV.int .i64 0, AV.int .i64 0]) (by kernel_rfl) (by kernel_rfl) (by kernel_rfl) (by kernel_rfl) rfl (by kernel_rfl) tg x y o nx
@[go_sem] theorem dw9 : l7 Tryd.prog 80 = some 1 := by kernel_rfl
@[go_sem] theorem dx0 : H5 Tryd.prog 80 = some false := by kernel_rfl
@[go_sem] theorem de5 (o) : N4 Tryd.prog o 80 .nil = some (.int .i64 0) := au3 (e := 100) (by kernel_rfl) o
@[go_sem] theorem de6 (o n cs) : N4 Tryd.prog o 80 (.sl n cs) = some (.int .i64 n) := aD9 (e := 100) (by kernel_rfl) o n cs
@[go_sem] theorem de7 (o k g off n) : N4 Tryd.prog o 80 (.ref k g off n) = some (.int .i64 n) := W8 (e := 100) (by kernel_rfl) o k g off n
@[go_sem] theorem de8 (n cs i) : j0 Tryd.prog 80 (.sl n cs) i = if 0 ≤ i ∧ i < (n : Int) then some (.fptr (cs.drop (i.toNat * 2))) else none := aa0 (s := 2) (by kernel_rfl) n cs i
@[go_sem] theorem do3 (k g off n x o nx) : Q0 Tryd.prog 80 (.ref k g off n) x ⟨o, nx⟩ = (D0 o x).bind fun q => (N0 (o k) g).bind (aE1 k off n 2 q.1 q.2 o nx) := aE2 (by kernel_rfl) k g off n x o nx
@[go_sem] theorem do4 (tg l c o nx) : q8 Tryd.prog tg 80 l c ⟨o, nx⟩ = if 0 ≤ l ∧ l ≤ c ∧ c * 16 ≤ V5 ∧ c ≤ V5 then some (.ref tg tg 0 l.toNat, ⟨upd o tg (.row ⟨100, 2, tg, false, true, rep [AV.int .i64 0, AV.int .i64 0] l.toNat⟩), nx⟩) else none := aE0 (e := 100) (s := 1) (b := 16) (z := [AV.int .i64 0, AV.int .i64 0]) (by kernel_rfl) (by kernel_rfl) (by kernel_rfl) (by kernel_rfl) rfl tg l c o nx
@[go_sem] theorem do5 (tg n ps o nx) : l8 Tryd.prog tg 80 n ps ⟨o, nx⟩ = if n * 2 ≤ 16777216 then (x6 (fun i => some (i * 2, 2)) (rep [AV.int .i64 0, AV.int .i64 0] n) ps).map (fun cs => (.ref tg tg 0 n, ⟨upd o tg (.row ⟨100, 2, tg, false, true, cs⟩), nx⟩)) else none := ai0 (e := 100) (s := 1) (z := [AV.int .i64 0, AV.int .i64 0]) (by kernel_rfl) (by kernel_rfl) (by kernel_rfl) rfl tg n ps o nx
@[go_sem] theorem do6 (tg x y o nx) : u3 Tryd.prog tg 80 80 x y ⟨o, nx⟩ = (D0 o y).bind fun q => aI4 tg 100 2 16 x q.1 q.2 o nx := am8 (e := 100) (s := 1) (b := 15) (z := [AV.int .i64 0, AV.int .i64 0]) (by kernel_rfl) (by kernel_rfl) (by kernel_rfl) (by kernel_rfl) rfl (by kernel_rfl) tg x y o nx
@[go_sem] theorem dx1 : l7 Tryd.prog 82 = some 5 := by kernel_rfl
@[go_sem] theorem dx2 : H5 Tryd.prog 82 = some true := by kernel_rfl
@[go_sem] theorem dx3 : F6 Tryd.prog 82 = some [AV.int .i64 0, AV.int .i64 0, AV.int .i64 0, AV.nil, AV.nil] := by kernel_rfl
@[go_sem] theorem de9 (k g off) : d5 Tryd.prog 82 0 (.ptr k g off) = some (.ptr k g (off + 0)) := u4 (s := 0) (ft := 3) (by kernel_rfl) (by kernel_rfl) k g off
@[go_sem] theorem df0 (k g off) : d5 Tryd.prog 82 1 (.ptr k g off) = some (.ptr k g (off + 1)) := u4 (s := 0) (ft := 3) (by kernel_rfl) (by kernel_rfl) k g off
@[go_sem] theorem df1 (cs) : d5 Tryd.prog 82 2 (.fptr cs) = some (.fptr (cs.drop 2)) := S8 (s := 0) (ft := 3) (by kernel_rfl) (by kernel_rfl) cs
@[go_sem] theorem df2 (k g off) : d5 Tryd.prog 82 3 (.ptr k g off) = some (.ptr k g (off + 3)) := u4 (s := 0) (ft := 79) (by kernel_rfl) (by kernel_rfl) k g off
@[go_sem] theorem df3 (k g off) : d5 Tryd.prog 82 4 (.ptr k g off) = some (.ptr k g (off + 4)) := u4 (s := 0) (ft := 80) (by kernel_rfl) (by kernel_rfl) k g off
@[go_sem] theorem do7 (xs) : C9 Tryd.prog 82 xs = (x6 (fun i => ([(0, 1), (1, 1), (2, 1), (3, 1), (4, 1)] : List (Nat × Nat))[i]?) [AV.int .i64 0, AV.int .i64 0, AV.int .i64 0, AV.nil, AV.nil] xs).map .agg := by kernel_rfl
@[go_sem] theorem do8 (tg n ps o nx) : l8 Tryd.prog tg 88 n ps ⟨o, nx⟩ = if n * 1 ≤ 16777216 then (x6 (fun i => some (i * 1, 1)) (rep [AV.int .u8 0] n) ps).map (fun cs => (.ref tg tg 0 n, ⟨upd o tg (.row ⟨5, 1, tg, false, true, cs⟩), nx⟩)) else none := ai0 (e := 5) (s := 0) (z := [AV.int .u8 0]) (by kernel_rfl) (by kernel_rfl) (by kernel_rfl) rfl tg n ps o nx
@[go_sem] theorem do9 : l7 Tryd.prog 100 = some 2 := by kernel_rfl
@[go_sem] theorem dp0 : H5 Tryd.prog 100 = some true := by kernel_rfl
@[go_sem] theorem dp1 : F6 Tryd.prog 100 = some [AV.int .i64 0, AV.int .i64 0] := by kernel_rfl
@[go_sem] theorem cP1 (k g off i) : j0 Tryd.prog 100 (.ptr k g off) i = if 0 ≤ i ∧ i < 2 then some (.ptr k g (off + i.toNat * 1)) else none := aK7 (n := 2) (e := 3) (s := 1) (by kernel_rfl) (by kernel_rfl) k g off i
@[go_sem] theorem df4 (xs) : C9 Tryd.prog 100 xs = (x6 (fun i => some (i * 1, 1)) [AV.int .i64 0, AV.int .i64 0] xs).map .agg := aR5 (n := 2) (e := 3) (by kernel_rfl) (by kernel_rfl) (by kernel_rfl) xs
@[go_sem] theorem df5 (m x y ok o nx) : G5 Tryd.prog 101 (.mp m) (.agg [.int .i64 x, .int .i64 y]) ok ⟨o, nx⟩ = (an0 (o m)).bind fun es => (G4 (.agg [.int .i64 x, .int .i64 y]) es).map (lkV ok (AV.bool false)) := bT4 (kt := 100) (et := 4) (z := (AV.bool false)) (k := .agg [.int .i64 x, .int .i64 y]) (by kernel_rfl) (by kernel_rfl) (by kernel_rfl) m ok o nx
@[go_sem] theorem df6 (m x y v o nx) : l6 Tryd.prog 101 (.mp m) (.agg [.int .i64 x, .int .i64 y]) v ⟨o, nx⟩ = (an0 (o m)).bind (bd7 m (.agg [.int .i64 x, .int .i64 y]) v o nx) := bT5 (kt := 100) (et := 4) (k := .agg [.int .i64 x, .int .i64 y]) (by kernel_rfl) (by kernel_rfl) m v o nx
@[go_sem] theorem cP2 (k g off) : d5 Tryd.prog 103 0 (.ptr k g off) = some (.ptr k g (off + 0)) := u4 (s := 1) (ft := 100) (by kernel_rfl) (by kernel_rfl) k g off
@[go_sem] theorem cP3 (k g off) : d5 Tryd.prog 103 1 (.ptr k g off) = some (.ptr k g (off + 2)) := u4 (s := 0) (ft := 3) (by kernel_rfl) (by kernel_rfl) k g off
@[go_sem] theorem cP4 (k g off) : d5 Tryd.prog 103 2 (.ptr k g off) = some (.ptr k g (off + 3)) := u4 (s := 0) (ft := 3) (by kernel_rfl) (by kernel_rfl) k g off
@[go_sem] theorem df7 (xs) : C9 Tryd.prog 103 xs = (x6 (fun i => ([(0, 2), (2, 1), (3, 1)] : List (Nat × Nat))[i]?) [AV.int .i64 0, AV.int .i64 0, AV.int .i64 0, AV.int .i64 0] xs).map .agg := by kernel_rfl
@[go_sem] theorem cP5 (o k g off n) : N4 Tryd.prog o 104 (.ref k g off n) = some (.int .i64 n) := W8 (e := 103) (by kernel_rfl) o k g off n
@[go_sem] theorem cP6 (k g off n i) : j0 Tryd.prog 104 (.ref k g off n) i = if 0 ≤ i ∧ i < (n : Int) then some (.ptr k g (off + i.toNat * 4)) else none := Q7 (s := 4) (by kernel_rfl) k g off n i
@[go_sem] theorem df8 (tg n ps o nx) : l8 Tryd.prog tg 104 n ps ⟨o, nx⟩ = if n * 4 ≤ 16777216 then (x6 (fun i => some (i * 4, 4)) (rep [AV.int .i64 0, AV.int .i64 0, AV.int .i64 0, AV.int .i64 0] n) ps).map (fun cs => (.ref tg tg 0 n, ⟨upd o tg (.row ⟨103, 4, tg, false, true, cs⟩), nx⟩)) else none := ai0 (e := 103) (s := 3) (z := [AV.int .i64 0, AV.int .i64 0, AV.int .i64 0, AV.int .i64 0]) (by kernel_rfl) (by kernel_rfl) (by kernel_rfl) rfl tg n ps o nx
@[go_sem] theorem df9 (tg x y o nx) : u3 Tryd.prog tg 104 104 x y ⟨o, nx⟩ = (D0 o y).bind fun q => aI4 tg 103 4 32 x q.1 q.2 o nx := am8 (e := 103) (s := 3) (b := 31) (z := [AV.int .i64 0, AV.int .i64 0, AV.int .i64 0, AV.int .i64 0]) (by kernel_rfl) (by kernel_rfl) (by kernel_rfl) (by kernel_rfl) rfl (by kernel_rfl) tg x y o nx
@[go_sem] theorem cP7 (o n cs) : N4 Tryd.prog o 108 (.sl n cs) = some (.int .i64 n) := aD9 (e := 110) (by kernel_rfl) o n cs
@[go_sem] theorem cP8 (n cs i) : j0 Tryd.prog 108 (.sl n cs) i = if 0 ≤ i ∧ i < (n : Int) then some (.fptr (cs.drop (i.toNat * 6))) else none := aa0 (s := 6) (by kernel_rfl) n cs i
@[go_sem] theorem dg0 (tg n ps o nx) : l8 Tryd.prog tg 108 n ps ⟨o, nx⟩ = if n * 6 ≤ 16777216 then (x6 (fun i => some (i * 6, 6)) (rep [AV.int .i64 0, AV.int .i64 0, AV.int .i64 0, AV.int .i64 0, AV.int .i64 0, AV.int .i64 0] n) ps).map (fun cs => (.ref tg tg 0 n, ⟨upd o tg (.row ⟨110, 6, tg, false, true, cs⟩), nx⟩)) else none := ai0 (e := 110) (s := 5) (z := [AV.int .i64 0, AV.int .i64 0, AV.int .i64 0, AV.int .i64 0, AV.int .i64 0, AV.int .i64 0]) (by kernel_rfl) (by kernel_rfl) (by kernel_rfl) rfl tg n ps o nx
@[go_sem] theorem dg1 (tg x y o nx) : u3 Tryd.prog tg 108 108 x y ⟨o, nx⟩ = (D0 o y).bind fun q => aI4 tg 110 6 48 x q.1 q.2 o nx := am8 (e := 110) (s := 5) (b := 47) (z := [AV.int .i64 0, AV.int .i64 0, AV.int .i64 0, AV.int .i64 0, AV.int .i64 0, AV.int .i64 0]) (by kernel_rfl) (by kernel_rfl) (by kernel_rfl) (by kernel_rfl) rfl (by kernel_rfl) tg x y o nx
@[go_sem] theorem dp2 : l7 Tryd.prog 110 = some 6 := by kernel_rfl
@[go_sem] theorem dp3 : H5 Tryd.prog 110 = some true := by kernel_rfl
@[go_sem] theorem dp4 : F6 Tryd.prog 110 = some [AV.int .i64 0, AV.int .i64 0, AV.int .i64 0, AV.int .i64 0, AV.int .i64 0, AV.int .i64 0] := by kernel_rfl
@[go_sem] theorem cP9 (k g off i) : j0 Tryd.prog 110 (.ptr k g off) i = if 0 ≤ i ∧ i < 6 then some (.ptr k g (off + i.toNat * 1)) else none := aK7 (n := 6) (e := 3) (s := 1) (by kernel_rfl) (by kernel_rfl) k g off i
@[go_sem] theorem dg2 (xs) : C9 Tryd.prog 110 xs = (x6 (fun i => some (i * 1, 1)) [AV.int .i64 0, AV.int .i64 0, AV.int .i64 0, AV.int .i64 0, AV.int .i64 0, AV.int .i64 0] xs).map .agg := aR5 (n := 6) (e := 3) (by kernel_rfl) (by kernel_rfl) (by kernel_rfl) xs
@[go_sem] theorem cp7 : D6 Tryd.prog 110 = some [Leaf.int, Leaf.int, Leaf.int, Leaf.int, Leaf.int, Leaf.int] := by kernel_rfl
@[go_sem] theorem dp5 : l7 Tryd.prog 116 = some 1 := by kernel_rfl
@[go_sem] theorem dp6 : H5 Tryd.prog 116 = some false := by kernel_rfl
@[go_sem] theorem dp7 : F6 Tryd.prog 116 = some [AV.nilp] := by kernel_rfl
@[go_sem] theorem cQ0 (k g off) : d5 Tryd.prog 118 0 (.ptr k g off) = some (.ptr k g (off + 0)) := u4 (s := 0) (ft := 35) (by kernel_rfl) (by kernel_rfl) k g off
@[go_sem] theorem cQ1 (k g off) : d5 Tryd.prog 118 1 (.ptr k g off) = some (.ptr k g (off + 1)) := u4 (s := 0) (ft := 35) (by kernel_rfl) (by kernel_rfl) k g off
@[go_sem] theorem dg3 (xs) : C9 Tryd.prog 118 xs = (x6 (fun i => ([(0, 1), (1, 1)] : List (Nat × Nat))[i]?) [AV.nil, AV.nil] xs).map .agg := by kernel_rfl
@[go_sem] theorem dp8 : l7 Tryd.prog 119 = some 1 := by kernel_rfl
@[go_sem] theorem dp9 : H5 Tryd.prog 119 = some false := by kernel_rfl
@[go_sem] theorem cQ2 (o k g off n) : N4 Tryd.prog o 119 (.ref k g off n) = some (.int .i64 n) := W8 (e := 118) (by kernel_rfl) o k g off n
@[go_sem] theorem cQ3 (k g off n i) : j0 Tryd.prog 119 (.ref k g off n) i = if 0 ≤ i ∧ i < (n : Int) then some (.ptr k g (off + i.toNat * 2)) else none := Q7 (s := 2) (by kernel_rfl) k g off n i
@[go_sem] theorem cQ4 (k g off n lo hi) : R8 Tryd.prog 119 (.ref k g off n) lo hi = if 0 ≤ lo.getD 0 ∧ lo.getD 0 ≤ hi.getD n ∧ hi.getD n ≤ n then some (.ref k g (off + (lo.getD 0).toNat * 2) ((hi.getD n).toNat - (lo.getD 0).toNat)) else none := bh6 (s := 1) (by kernel_rfl) k g off n lo hi
@[go_sem] theorem dg4 (tg n ps o nx) : l8 Tryd.prog tg 119 n ps ⟨o, nx⟩ = if n * 2 ≤ 16777216 then (x6 (fun i => some (i * 2, 2)) (rep [AV.nil, AV.nil] n) ps).map (fun cs => (.ref tg tg 0 n, ⟨upd o tg (.row ⟨118, 2, tg, false, true, cs⟩), nx⟩)) else none := ai0 (e := 118) (s := 1) (z := [AV.nil, AV.nil]) (by kernel_rfl) (by kernel_rfl) (by kernel_rfl) rfl tg n ps o nx
@[go_sem] theorem dg5 (tg x y o nx) : u3 Tryd.prog tg 119 119 x y ⟨o, nx⟩ = (D0 o y).bind fun q => aI4 tg 118 2 48 x q.1 q.2 o nx := am8 (e := 118) (s := 1) (b := 47) (z := [AV.nil, AV.nil]) (by kernel_rfl) (by kernel_rfl) (by kernel_rfl) (by kernel_rfl) rfl (by kernel_rfl) tg x y o nx
@[go_sem] theorem cQ5 (k g off) : d5 Tryd.prog 121 0 (.ptr k g off) = some (.ptr k g (off + 0)) := u4 (s := 0) (ft := 9) (by kernel_rfl) (by kernel_rfl) k g off
@[go_sem] theorem cQ6 (cs) : d5 Tryd.prog 121 0 (.fptr cs) = some (.fptr (cs.drop 0)) := S8 (s := 0) (ft := 9) (by kernel_rfl) (by kernel_rfl) cs
@[go_sem] theorem cQ7 (k g off) : d5 Tryd.prog 121 1 (.ptr k g off) = some (.ptr k g (off + 1)) := u4 (s := 0) (ft := 3) (by kernel_rfl) (by kernel_rfl) k g off
@[go_sem] theorem cQ8 (cs) : d5 Tryd.prog 121 1 (.fptr cs) = some (.fptr (cs.drop 1)) := S8 (s := 0) (ft := 3) (by kernel_rfl) (by kernel_rfl) cs
@[go_sem] theorem cQ9 (k g off) : d5 Tryd.prog 121 2 (.ptr k g off) = some (.ptr k g (off + 2)) := u4 (s := 0) (ft := 119) (by kernel_rfl) (by kernel_rfl) k g off
@[go_sem] theorem dg6 (xs) : C9 Tryd.prog 121 xs = (x6 (fun i => ([(0, 1), (1, 1), (2, 1)] : List (Nat × Nat))[i]?) [AV.str [], AV.int .i64 0, AV.nil] xs).map .agg := by kernel_rfl
@[go_sem] theorem cR0 (k g off) : d5 Tryd.prog 134 0 (.ptr k g off) = some (.ptr k g (off + 0)) := u4 (s := 4) (ft := 82) (by kernel_rfl) (by kernel_rfl) k g off
@[go_sem] theorem dg7 (xs) : C9 Tryd.prog 134 xs = (x6 (fun i => ([(0, 5)] : List (Nat × Nat))[i]?) [AV.int .i64 0, AV.int .i64 0, AV.int .i64 0, AV.nil, AV.nil] xs).map .agg := by kernel_rfl
@[go_sem] theorem dq0 : l7 Tryd.prog 136 = some 2 := by kernel_rfl
@[go_sem] theorem dq1 : H5 Tryd.prog 136 = some true := by kernel_rfl
@[go_sem] theorem dq2 : F6 Tryd.prog 136 = some [AV.int .i64 0, AV.int .i64 0] := by kernel_rfl
@[go_sem] theorem cR1 (k g off) : d5 Tryd.prog 136 0 (.ptr k g off) = some (.ptr k g (off + 0)) := u4 (s := 0) (ft := 3) (by kernel_rfl) (by kernel_rfl) k g off
@[go_sem] theorem cR2 (k g off) : d5 Tryd.prog 136 1 (.ptr k g off) = some (.ptr k g (off + 1)) := u4 (s := 0) (ft := 3) (by kernel_rfl) (by kernel_rfl) k g off
@[go_sem] theorem dg8 (xs) : C9 Tryd.prog 136 xs = (x6 (fun i => ([(0, 1), (1, 1)] : List (Nat × Nat))[i]?) [AV.int .i64 0, AV.int .i64 0] xs).map .agg := by kernel_rfl
@[go_sem] theorem dq3 : l7 Tryd.prog 139 = some 1 := by kernel_rfl
@[go_sem] theorem dq4 : H5 Tryd.prog 139 = some false := by kernel_rfl
@[go_sem] theorem cR3 (k g off n i) : j0 Tryd.prog 139 (.ref k g off n) i = if 0 ≤ i ∧ i < (n : Int) then some (.ptr k g (off + i.toNat * 1)) else none := Q7 (s := 1) (by kernel_rfl) k g off n i
@[go_sem] theorem dg9 (tg l c o nx) : q8 Tryd.prog tg 139 l c ⟨o, nx⟩ = if 0 ≤ l ∧ l ≤ c ∧ c * 24 ≤ V5 ∧ c ≤ V5 then some (.ref tg tg 0 l.toNat, ⟨upd o tg (.row ⟨79, 1, tg, false, true, rep [AV.nil] l.toNat⟩), nx⟩) else none := aE0 (e := 79) (s := 0) (b := 24) (z := [AV.nil]) (by kernel_rfl) (by kernel_rfl) (by kernel_rfl) (by kernel_rfl) rfl tg l c o nx
@[go_sem] theorem dq5 : l7 Tryd.prog 140 = some 1 := by kernel_rfl
@[go_sem] theorem dq6 : H5 Tryd.prog 140 = some false := by kernel_rfl
@[go_sem] theorem dh0 (m s ok o nx) : G5 Tryd.prog 140 (.mp m) (.str s) ok ⟨o, nx⟩ = (an0 (o m)).bind fun es => (G4 (.str s) es).map (lkV ok (AV.int .i64 0)) := bT4 (kt := 9) (et := 3) (z := (AV.int .i64 0)) (k := .str s) (by kernel_rfl) (by kernel_rfl) (by kernel_rfl) m ok o nx
@[go_sem] theorem dh1 (m s v o nx) : l6 Tryd.prog 140 (.mp m) (.str s) v ⟨o, nx⟩ = (an0 (o m)).bind (bd7 m (.str s) v o nx) := bT5 (kt := 9) (et := 3) (k := .str s) (by kernel_rfl) (by kernel_rfl) m v o nx
@[go_sem] theorem dq7 : l7 Tryd.prog 141 = some 1 := by kernel_rfl
@[go_sem] theorem dq8 : H5 Tryd.prog 141 = some false := by kernel_rfl
@[go_sem] theorem cR4 (o) : N4 Tryd.prog o 141 .nil = some (.int .i64 0) := au3 (e := 22) (by kernel_rfl) o
@[go_sem] theorem cR5 (o k g off n) : N4 Tryd.prog o 141 (.ref k g off n) = some (.int .i64 n) := W8 (e := 22) (by kernel_rfl) o k g off n
@[go_sem] theorem cR6 (n cs i) : j0 Tryd.prog 141 (.sl n cs) i = if 0 ≤ i ∧ i < (n : Int) then some (.fptr (cs.drop (i.toNat * 1))) else none := aa0 (s := 1) (by kernel_rfl) n cs i
@[go_sem] theorem cR7 (k g off n i) : j0 Tryd.prog 141 (.ref k g off n) i = if 0 ≤ i ∧ i < (n : Int) then some (.ptr k g (off + i.toNat * 1)) else none := Q7 (s := 1) (by kernel_rfl) k g off n i
@[go_sem] theorem dh2 (tg l c o nx) : q8 Tryd.prog tg 141 l c ⟨o, nx⟩ = if 0 ≤ l ∧ l ≤ c ∧ c * 24 ≤ V5 ∧ c ≤ V5 then some (.ref tg tg 0 l.toNat, ⟨upd o tg (.row ⟨22, 1, tg, false, true, rep [AV.nil] l.toNat⟩), nx⟩) else none := aE0 (e := 22) (s := 0) (b := 24) (z := [AV.nil]) (by kernel_rfl) (by kernel_rfl) (by kernel_rfl) (by kernel_rfl) rfl tg l c o nx
@[go_sem] theorem dh3 (tg n ps o nx) : l8 Tryd.prog tg 141 n ps ⟨o, nx⟩ = if n * 1 ≤ 16777216 then (x6 (fun i => some (i * 1, 1)) (rep [AV.nil] n) ps).map (fun cs => (.ref tg tg 0 n, ⟨upd o tg (.row ⟨22, 1, tg, false, true, cs⟩), nx⟩)) else none := ai0 (e := 22) (s := 0) (z := [AV.nil]) (by kernel_rfl) (by kernel_rfl) (by kernel_rfl) rfl tg n ps o nx
@[go_sem] theorem dh4 (tg x y o nx) : u3 Tryd.prog tg 141 141 x y ⟨o, nx⟩ = (D0 o y).bind fun q => aI4 tg 22 1 24 x q.1 q.2 o nx := am8 (e := 22) (s := 0) (b := 23) (z := [AV.nil]) (by kernel_rfl) (by kernel_rfl) (by kernel_rfl) (by kernel_rfl) rfl (by kernel_rfl) tg x y o nx
@[go_sem] theorem cR8 (k g off) : d5 Tryd.prog 143 0 (.ptr k g off) = some (.ptr k g (off + 0)) := u4 (s := 4) (ft := 82) (by kernel_rfl) (by kernel_rfl) k g off
@[go_sem] theorem cR9 (cs) : d5 Tryd.prog 143 0 (.fptr cs) = some (.fptr (cs.drop 0)) := S8 (s := 4) (ft := 82) (by kernel_rfl) (by kernel_rfl) cs
@[go_sem] theorem cS0 (k g off) : d5 Tryd.prog 143 1 (.ptr k g off) = some (.ptr k g (off + 5)) := u4 (s := 0) (ft := 139) (by kernel_rfl) (by kernel_rfl) k g off
@[go_sem] theorem cS1 (k g off) : d5 Tryd.prog 143 2 (.ptr k g off) = some (.ptr k g (off + 6)) := u4 (s := 0) (ft := 140) (by kernel_rfl) (by kernel_rfl) k g off
@[go_sem] theorem cS2 (k g off) : d5 Tryd.prog 143 3 (.ptr k g off) = some (.ptr k g (off + 7)) := u4 (s := 0) (ft := 141) (by kernel_rfl) (by kernel_rfl) k g off
@[go_sem] theorem dh5 (xs) : C9 Tryd.prog 143 xs = (x6 (fun i => ([(0, 5), (5, 1), (6, 1), (7, 1)] : List (Nat × Nat))[i]?) [AV.int .i64 0, AV.int .i64 0, AV.int .i64 0, AV.nil, AV.nil, AV.nil, AV.nilmp, AV.nil] xs).map .agg := by kernel_rfl
@[go_sem] theorem dq9 : l7 Tryd.prog 145 = some 3 := by kernel_rfl
@[go_sem] theorem dr0 : H5 Tryd.prog 145 = some true := by kernel_rfl
@[go_sem] theorem dr1 : F6 Tryd.prog 145 = some [AV.int .i64 0, AV.int .i64 0, AV.int .i64 0] := by kernel_rfl
@[go_sem] theorem cS3 (k g off) : d5 Tryd.prog 145 0 (.ptr k g off) = some (.ptr k g (off + 0)) := u4 (s := 0) (ft := 3) (by kernel_rfl) (by kernel_rfl) k g off
@[go_sem] theorem cS4 (k g off) : d5 Tryd.prog 145 1 (.ptr k g off) = some (.ptr k g (off + 1)) := u4 (s := 0) (ft := 3) (by kernel_rfl) (by kernel_rfl) k g off
@[go_sem] theorem cS5 (k g off) : d5 Tryd.prog 145 2 (.ptr k g off) = some (.ptr k g (off + 2)) := u4 (s := 0) (ft := 3) (by kernel_rfl) (by kernel_rfl) k g off
@[go_sem] theorem dh6 (xs) : C9 Tryd.prog 145 xs = (x6 (fun i => ([(0, 1), (1, 1), (2, 1)] : List (Nat × Nat))[i]?) [AV.int .i64 0, AV.int .i64 0, AV.int .i64 0] xs).map .agg := by kernel_rfl
@[go_sem] theorem cS6 (o) : N4 Tryd.prog o 159 .nil = some (.int .i64 0) := au3 (e := 136) (by kernel_rfl) o
@[go_sem] theorem cS7 (o k g off n) : N4 Tryd.prog o 159 (.ref k g off n) = some (.int .i64 n) := W8 (e := 136) (by kernel_rfl) o k g off n
@[go_sem] theorem cS8 (k g off n i) : j0 Tryd.prog 159 (.ref k g off n) i = if 0 ≤ i ∧ i < (n : Int) then some (.ptr k g (off + i.toNat * 2)) else none := Q7 (s := 2) (by kernel_rfl) k g off n i
@[go_sem] theorem cS9 (k g off n lo hi) : R8 Tryd.prog 159 (.ref k g off n) lo hi = if 0 ≤ lo.getD 0 ∧ lo.getD 0 ≤ hi.getD n ∧ hi.getD n ≤ n then some (.ref k g (off + (lo.getD 0).toNat * 2) ((hi.getD n).toNat - (lo.getD 0).toNat)) else none := bh6 (s := 1) (by kernel_rfl) k g off n lo hi
@[go_sem] theorem dh7 (tg n ps o nx) : l8 Tryd.prog tg 159 n ps ⟨o, nx⟩ = if n * 2 ≤ 16777216 then (x6 (fun i => some (i * 2, 2)) (rep [AV.int .i64 0, AV.int .i64 0] n) ps).map (fun cs => (.ref tg tg 0 n, ⟨upd o tg (.row ⟨136, 2, tg, false, true, cs⟩), nx⟩)) else none := ai0 (e := 136) (s := 1) (z := [AV.int .i64 0, AV.int .i64 0]) (by kernel_rfl) (by kernel_rfl) (by kernel_rfl) rfl tg n ps o nx
@[go_sem] theorem dh8 (tg x y o nx) : u3 Tryd.prog tg 159 159 x y ⟨o, nx⟩ = (D0 o y).bind fun q => aI4 tg 136 2 16 x q.1 q.2 o nx := am8 (e := 136) (s := 1) (b := 15) (z := [AV.int .i64 0, AV.int .i64 0]) (by kernel_rfl) (by kernel_rfl) (by kernel_rfl) (by kernel_rfl) rfl (by kernel_rfl) tg x y o nx
@[go_sem] theorem dr2 : l7 Tryd.prog 165 = some 2 := by kernel_rfl
@[go_sem] theorem dr3 : H5 Tryd.prog 165 = some true := by kernel_rfl
@[go_sem] theorem dr4 : F6 Tryd.prog 165 = some [AV.int .i64 0, AV.nil] := by kernel_rfl
@[go_sem] theorem cT0 (k g off) : d5 Tryd.prog 165 0 (.ptr k g off) = some (.ptr k g (off + 0)) := u4 (s := 0) (ft := 3) (by kernel_rfl) (by kernel_rfl) k g off
@[go_sem] theorem cT1 (k g off) : d5 Tryd.prog 165 1 (.ptr k g off) = some (.ptr k g (off + 1)) := u4 (s := 0) (ft := 141) (by kernel_rfl) (by kernel_rfl) k g off
@[go_sem] theorem dh9 (xs) : C9 Tryd.prog 165 xs = (x6 (fun i => ([(0, 1), (1, 1)] : List (Nat × Nat))[i]?) [AV.int .i64 0, AV.nil] xs).map .agg := by kernel_rfl
@[go_sem] theorem dx4 (tg k n o nx) : d7 Tryd.prog tg 2 3 (.int k n) ⟨o, nx⟩ = some (.int .i64 (IntKind.wrap .i64 n), ⟨o, nx⟩) := r9 (td := .int .i64) (by kernel_rfl) (by kernel_rfl) tg k n o nx
@[go_sem] theorem dx5 (tg k n o nx) : d7 Tryd.prog tg 2 5 (.int k n) ⟨o, nx⟩ = some (.int .u8 (IntKind.wrap .u8 n), ⟨o, nx⟩) := r9 (td := .int .i64) (by kernel_rfl) (by kernel_rfl) tg k n o nx
@[go_sem] theorem dr5 (tg k n o nx) : d7 Tryd.prog tg 2 39 (.int k n) ⟨o, nx⟩ = some (.int .i64 (IntKind.wrap .i64 n), ⟨o, nx⟩) := r9 (td := .int .i64) (by kernel_rfl) (by kernel_rfl) tg k n o nx
@[go_sem] theorem dr6 (tg k n o nx) : d7 Tryd.prog tg 2 63 (.int k n) ⟨o, nx⟩ = some (.int .u64 (IntKind.wrap .u64 n), ⟨o, nx⟩) := r9 (td := .int .i64) (by kernel_rfl) (by kernel_rfl) tg k n o nx
@[go_sem] theorem di0 (tg k n o nx) : d7 Tryd.prog tg 2 169 (.int k n) ⟨o, nx⟩ = some (.int .u64 (IntKind.wrap .u64 n), ⟨o, nx⟩) := r9 (td := .int .i64) (by kernel_rfl) (by kernel_rfl) tg k n o nx
@[go_sem] theorem di1 (tg k n o nx) : d7 Tryd.prog tg 2 176 (.int k n) ⟨o, nx⟩ = some (.int .u32 (IntKind.wrap .u32 n), ⟨o, nx⟩) := r9 (td := .int .i64) (by kernel_rfl) (by kernel_rfl) tg k n o nx
@[go_sem] theorem dx6 (tg k n o nx) : d7 Tryd.prog tg 3 2 (.int k n) ⟨o, nx⟩ = some (.int .i64 (IntKind.wrap .i64 n), ⟨o, nx⟩) := r9 (td := .int .i64) (by kernel_rfl) (by kernel_rfl) tg k n o nx
@[go_sem] theorem dx7 (tg k n o nx) : d7 Tryd.prog tg 3 5 (.int k n) ⟨o, nx⟩ = some (.int .u8 (IntKind.wrap .u8 n), ⟨o, nx⟩) := r9 (td := .int .i64) (by kernel_rfl) (by kernel_rfl) tg k n o nx
@[go_sem] theorem dr7 (tg k n o nx) : d7 Tryd.prog tg 3 39 (.int k n) ⟨o, nx⟩ = some (.int .i64 (IntKind.wrap .i64 n), ⟨o, nx⟩) := r9 (td := .int .i64) (by kernel_rfl) (by kernel_rfl) tg k n o nx
@[go_sem] theorem dr8 (tg k n o nx) : d7 Tryd.prog tg 3 63 (.int k n) ⟨o, nx⟩ = some (.int .u64 (IntKind.wrap .u64 n), ⟨o, nx⟩) := r9 (td := .int .i64) (by kernel_rfl) (by kernel_rfl) tg k n o nx
@[go_sem] theorem di2 (tg k n o nx) : d7 Tryd.prog tg 3 169 (.int k n) ⟨o, nx⟩ = some (.int .u64 (IntKind.wrap .u64 n), ⟨o, nx⟩) := r9 (td := .int .i64) (by kernel_rfl) (by kernel_rfl) tg k n o nx
@[go_sem] theorem di3 (tg k n o nx) : d7 Tryd.prog tg 3 176 (.int k n) ⟨o, nx⟩ = some (.int .u32 (IntKind.wrap .u32 n), ⟨o, nx⟩) := r9 (td := .int .i64) (by kernel_rfl) (by kernel_rfl) tg k n o nx
@[go_sem] theorem dx8 (tg k n o nx) : d7 Tryd.prog tg 5 2 (.int k n) ⟨o, nx⟩ = some (.int .i64 (IntKind.wrap .i64 n), ⟨o, nx⟩) := r9 (td := .int .u8) (by kernel_rfl) (by kernel_rfl) tg k n o nx
@[go_sem] theorem dx9 (tg k n o nx) : d7 Tryd.prog tg 5 3 (.int k n) ⟨o, nx⟩ = some (.int .i64 (IntKind.wrap .i64 n), ⟨o, nx⟩) := r9 (td := .int .u8) (by kernel_rfl) (by kernel_rfl) tg k n o nx
@[go_sem] theorem dr9 (tg k n o nx) : d7 Tryd.prog tg 5 39 (.int k n) ⟨o, nx⟩ = some (.int .i64 (IntKind.wrap .i64 n), ⟨o, nx⟩) := r9 (td := .int .u8) (by kernel_rfl) (by kernel_rfl) tg k n o nx
@[go_sem] theorem ds0 (tg k n o nx) : d7 Tryd.prog tg 5 63 (.int k n) ⟨o, nx⟩ = some (.int .u64 (IntKind.wrap .u64 n), ⟨o, nx⟩) := r9 (td := .int .u8) (by kernel_rfl) (by kernel_rfl) tg k n o nx
@[go_sem] theorem di4 (tg k n o nx) : d7 Tryd.prog tg 5 169 (.int k n) ⟨o, nx⟩ = some (.int .u64 (IntKind.wrap .u64 n), ⟨o, nx⟩) := r9 (td := .int .u8) (by kernel_rfl) (by kernel_rfl) tg k n o nx
@[go_sem] theorem di5 (tg k n o nx) : d7 Tryd.prog tg 5 176 (.int k n) ⟨o, nx⟩ = some (.int .u32 (IntKind.wrap .u32 n), ⟨o, nx⟩) := r9 (td := .int .u8) (by kernel_rfl) (by kernel_rfl) tg k n o nx
@[go_sem] theorem ds1 (tg k n o nx) : d7 Tryd.prog tg 39 2 (.int k n) ⟨o, nx⟩ = some (.int .i64 (IntKind.wrap .i64 n), ⟨o, nx⟩) := r9 (td := .int .i64) (by kernel_rfl) (by kernel_rfl) tg k n o nx
@[go_sem] theorem ds2 (tg k n o nx) : d7 Tryd.prog tg 39 3 (.int k n) ⟨o, nx⟩ = some (.int .i64 (IntKind.wrap .i64 n), ⟨o, nx⟩) := r9 (td := .int .i64) (by kernel_rfl) (by kernel_rfl) tg k n o nx
@[go_sem] theorem ds3 (tg k n o nx) : d7 Tryd.prog tg 39 5 (.int k n) ⟨o, nx⟩ = some (.int .u8 (IntKind.wrap .u8 n), ⟨o, nx⟩) := r9 (td := .int .i64) (by kernel_rfl) (by kernel_rfl) tg k n o nx
@[go_sem] theorem di6 (tg k n o nx) : d7 Tryd.prog tg 39 63 (.int k n) ⟨o, nx⟩ = some (.int .u64 (IntKind.wrap .u64 n), ⟨o, nx⟩) := r9 (td := .int .i64) (by kernel_rfl) (by kernel_rfl) tg k n o nx
@[go_sem] theorem cT2 (tg k n o nx) : d7 Tryd.prog tg 39 169 (.int k n) ⟨o, nx⟩ = some (.int .u64 (IntKind.wrap .u64 n), ⟨o, nx⟩) := r9 (td := .int .i64) (by kernel_rfl) (by kernel_rfl) tg k n o nx
@[go_sem] theorem cT3 (tg k n o nx) : d7 Tryd.prog tg 39 176 (.int k n) ⟨o, nx⟩ = some (.int .u32 (IntKind.wrap .u32 n), ⟨o, nx⟩) := r9 (td := .int .i64) (by kernel_rfl) (by kernel_rfl) tg k n o nx
@[go_sem] theorem ds4 (tg k n o nx) : d7 Tryd.prog tg 63 2 (.int k n) ⟨o, nx⟩ = some (.int .i64 (IntKind.wrap .i64 n), ⟨o, nx⟩) := r9 (td := .int .u64) (by kernel_rfl) (by kernel_rfl) tg k n o nx
@[go_sem] theorem ds5 (tg k n o nx) : d7 Tryd.prog tg 63 3 (.int k n) ⟨o, nx⟩ = some (.int .i64 (IntKind.wrap .i64 n), ⟨o, nx⟩) := r9 (td := .int .u64) (by kernel_rfl) (by kernel_rfl) tg k n o nx
@[go_sem] theorem ds6 (tg k n o nx) : d7 Tryd.prog tg 63 5 (.int k n) ⟨o, nx⟩ = some (.int .u8 (IntKind.wrap .u8 n), ⟨o, nx⟩) := r9 (td := .int .u64) (by kernel_rfl) (by kernel_rfl) tg k n o nx
@[go_sem] theorem di7 (tg k n o nx) : d7 Tryd.prog tg 63 39 (.int k n) ⟨o, nx⟩ = some (.int .i64 (IntKind.wrap .i64 n), ⟨o, nx⟩) := r9 (td := .int .u64) (by kernel_rfl) (by kernel_rfl) tg k n o nx
@[go_sem] theorem cT4 (tg k n o nx) : d7 Tryd.prog tg 63 169 (.int k n) ⟨o, nx⟩ = some (.int .u64 (IntKind.wrap .u64 n), ⟨o, nx⟩) := r9 (td := .int .u64) (by kernel_rfl) (by kernel_rfl) tg k n o nx
@[go_sem] theorem cT5 (tg k n o nx) : d7 Tryd.prog tg 63 176 (.int k n) ⟨o, nx⟩ = some (.int .u32 (IntKind.wrap .u32 n), ⟨o, nx⟩) := r9 (td := .int .u64) (by kernel_rfl) (by kernel_rfl) tg k n o nx
@[go_sem] theorem di8 (tg k n o nx) : d7 Tryd.prog tg 169 2 (.int k n) ⟨o, nx⟩ = some (.int .i64 (IntKind.wrap .i64 n), ⟨o, nx⟩) := r9 (td := .int .u64) (by kernel_rfl) (by kernel_rfl) tg k n o nx
@[go_sem] theorem di9 (tg k n o nx) : d7 Tryd.prog tg 169 3 (.int k n) ⟨o, nx⟩ = some (.int .i64 (IntKind.wrap .i64 n), ⟨o, nx⟩) := r9 (td := .int .u64) (by kernel_rfl) (by kernel_rfl) tg k n o nx
@[go_sem] theorem dj0 (tg k n o nx) : d7 Tryd.prog tg 169 5 (.int k n) ⟨o, nx⟩ = some (.int .u8 (IntKind.wrap .u8 n), ⟨o, nx⟩) := r9 (td := .int .u64) (by kernel_rfl) (by kernel_rfl) tg k n o nx
@[go_sem] theorem cT6 (tg k n o nx) : d7 Tryd.prog tg 169 39 (.int k n) ⟨o, nx⟩ = some (.int .i64 (IntKind.wrap .i64 n), ⟨o, nx⟩) := r9 (td := .int .u64) (by kernel_rfl) (by kernel_rfl) tg k n o nx
@[go_sem] theorem cT7 (tg k n o nx) : d7 Tryd.prog tg 169 63 (.int k n) ⟨o, nx⟩ = some (.int .u64 (IntKind.wrap .u64 n), ⟨o, nx⟩) := r9 (td := .int .u64) (by kernel_rfl) (by kernel_rfl) tg k n o nx
@[go_sem] theorem cI3 (tg k n o nx) : d7 Tryd.prog tg 169 176 (.int k n) ⟨o, nx⟩ = some (.int .u32 (IntKind.wrap .u32 n), ⟨o, nx⟩) := r9 (td := .int .u64) (by kernel_rfl) (by kernel_rfl) tg k n o nx
@[go_sem] theorem dj1 (tg k n o nx) : d7 Tryd.prog tg 176 2 (.int k n) ⟨o, nx⟩ = some (.int .i64 (IntKind.wrap .i64 n), ⟨o, nx⟩) := r9 (td := .int .u32) (by kernel_rfl) (by kernel_rfl) tg k n o nx
@[go_sem] theorem dj2 (tg k n o nx) : d7 Tryd.prog tg 176 3 (.int k n) ⟨o, nx⟩ = some (.int .i64 (IntKind.wrap .i64 n), ⟨o, nx⟩) := r9 (td := .int .u32) (by kernel_rfl) (by kernel_rfl) tg k n o nx
@[go_sem] theorem dj3 (tg k n o nx) : d7 Tryd.prog tg 176 5 (.int k n) ⟨o, nx⟩ = some (.int .u8 (IntKind.wrap .u8 n), ⟨o, nx⟩) := r9 (td := .int .u32) (by kernel_rfl) (by kernel_rfl) tg k n o nx
@[go_sem] theorem cT8 (tg k n o nx) : d7 Tryd.prog tg 176 39 (.int k n) ⟨o, nx⟩ = some (.int .i64 (IntKind.wrap .i64 n), ⟨o, nx⟩) := r9 (td := .int .u32) (by kernel_rfl) (by kernel_rfl) tg k n o nx
@[go_sem] theorem cT9 (tg k n o nx) : d7 Tryd.prog tg 176 63 (.int k n) ⟨o, nx⟩ = some (.int .u64 (IntKind.wrap .u64 n), ⟨o, nx⟩) := r9 (td := .int .u32) (by kernel_rfl) (by kernel_rfl) tg k n o nx
@[go_sem] theorem cI4 (tg k n o nx) : d7 Tryd.prog tg 176 169 (.int k n) ⟨o, nx⟩ = some (.int .u64 (IntKind.wrap .u64 n), ⟨o, nx⟩) := r9 (td := .int .u32) (by kernel_rfl) (by kernel_rfl) tg k n o nx
def md0 (f : FuncId) : Mode := if f ∈ [22, 43, 64, 56, 28, 35, 38, 21, 31, 32, 17, 14, 25, 95, 99, 101, 102, 103, 81, 30, 19, 27, 20, 85, 51, 52, 61, 71, 72, 87, 88, 86, 98, 48, 49, 36, 60, 62, 53] then .ext true else if f ∈ [23, 44, 65, 29, 46, 79, 96, 97, 54, 55, 82, 83, 84, 15, 45, 47, 24, 16, 33, 18, 26, 42, 63, 40, 41, 69, 75, 50, 34, 59, 37] then .ext false else if f ∈ [] then .raw true else .raw false
@[go_sem] theorem M22 : md0 22 = .ext true := rfl
@[go_sem] theorem M23 : md0 23 = .ext false := rfl
@[go_sem] theorem M43 : md0 43 = .ext true := rfl
@[go_sem] theorem M64 : md0 64 = .ext true := rfl
@[go_sem] theorem M44 : md0 44 = .ext false := rfl
@[go_sem] theorem M65 : md0 65 = .ext false := rfl
@[go_sem] theorem M29 : md0 29 = .ext false := rfl
@[go_sem] theorem M56 : md0 56 = .ext true := rfl
@[go_sem] theorem M46 : md0 46 = .ext false := rfl
@[go_sem] theorem M79 : md0 79 = .ext false := rfl
@[go_sem] theorem M96 : md0 96 = .ext false := rfl
@[go_sem] theorem M97 : md0 97 = .ext false := rfl
@[go_sem] theorem M28 : md0 28 = .ext true := rfl
@[go_sem] theorem M54 : md0 54 = .ext false := rfl
@[go_sem] theorem M55 : md0 55 = .ext false := rfl
@[go_sem] theorem M82 : md0 82 = .ext false := rfl
@[go_sem] theorem M83 : md0 83 = .ext false := rfl
@[go_sem] theorem M84 : md0 84 = .ext false := rfl
@[go_sem] theorem M35 : md0 35 = .ext true := rfl
@[go_sem] theorem M38 : md0 38 = .ext true := rfl
@[go_sem] theorem M15 : md0 15 = .ext false := rfl
@[go_sem] theorem M21 : md0 21 = .ext true := rfl
@[go_sem] theorem M31 : md0 31 = .ext true := rfl
@[go_sem] theorem M32 : md0 32 = .ext true := rfl
@[go_sem] theorem M17 : md0 17 = .ext true := rfl
@[go_sem] theorem M76 : md0 76 = .raw false := rfl
@[go_sem] theorem M90 : md0 90 = .raw false := rfl
@[go_sem] theorem M91 : md0 91 = .raw false := rfl
@[go_sem] theorem M92 : md0 92 = .raw false := rfl
@[go_sem] theorem M77 : md0 77 = .raw false := rfl
@[go_sem] theorem M93 : md0 93 = .raw false := rfl
@[go_sem] theorem M94 : md0 94 = .raw false := rfl
@[go_sem] theorem M14 : md0 14 = .ext true := rfl
@[go_sem] theorem M45 : md0 45 = .ext false := rfl
@[go_sem] theorem M25 : md0 25 = .ext true := rfl
@[go_sem] theorem M47 : md0 47 = .ext false := rfl
@[go_sem] theorem M95 : md0 95 = .ext true := rfl
@[go_sem] theorem M99 : md0 99 = .ext true := rfl
@[go_sem] theorem dy0 : md0 101 = .ext true := rfl
@[go_sem] theorem dy1 : md0 102 = .ext true := rfl
@[go_sem] theorem dy2 : md0 103 = .ext true := rfl
@[go_sem] theorem M78 : md0 78 = .raw false := rfl
@[go_sem] theorem M80 : md0 80 = .raw false := rfl
@[go_sem] theorem M81 : md0 81 = .ext true := rfl
@[go_sem] theorem M30 : md0 30 = .ext true := rfl
@[go_sem] theorem M24 : md0 24 = .ext false := rfl
@[go_sem] theorem M16 : md0 16 = .ext false := rfl
@[go_sem] theorem M19 : md0 19 = .ext true := rfl
@[go_sem] theorem M27 : md0 27 = .ext true := rfl
@[go_sem] theorem M33 : md0 33 = .ext false := rfl
@[go_sem] theorem M18 : md0 18 = .ext false := rfl
@[go_sem] theorem M20 : md0 20 = .ext true := rfl
@[go_sem] theorem M26 : md0 26 = .ext false := rfl
@[go_sem] theorem M42 : md0 42 = .ext false := rfl
@[go_sem] theorem M63 : md0 63 = .ext false := rfl
@[go_sem] theorem M85 : md0 85 = .ext true := rfl
@[go_sem] theorem M40 : md0 40 = .ext false := rfl
@[go_sem] theorem M41 : md0 41 = .ext false := rfl
@[go_sem] theorem M51 : md0 51 = .ext true := rfl
@[go_sem] theorem M52 : md0 52 = .ext true := rfl
@[go_sem] theorem M61 : md0 61 = .ext true := rfl
@[go_sem] theorem M69 : md0 69 = .ext false := rfl
@[go_sem] theorem M71 : md0 71 = .ext true := rfl
@[go_sem] theorem M75 : md0 75 = .ext false := rfl
@[go_sem] theorem M72 : md0 72 = .ext true := rfl
@[go_sem] theorem M87 : md0 87 = .ext true := rfl
@[go_sem] theorem M88 : md0 88 = .ext true := rfl
@[go_sem] theorem M86 : md0 86 = .ext true := rfl
@[go_sem] theorem M67 : md0 67 = .raw false := rfl
@[go_sem] theorem M68 : md0 68 = .raw false := rfl
@[go_sem] theorem M74 : md0 74 = .raw false := rfl
@[go_sem] theorem M89 : md0 89 = .raw false := rfl
@[go_sem] theorem M70 : md0 70 = .raw false := rfl
@[go_sem] theorem M73 : md0 73 = .raw false := rfl
@[go_sem] theorem M66 : md0 66 = .raw false := rfl
@[go_sem] theorem M98 : md0 98 = .ext true := rfl
@[go_sem] theorem M48 : md0 48 = .ext true := rfl
@[go_sem] theorem M49 : md0 49 = .ext true := rfl
@[go_sem] theorem M50 : md0 50 = .ext false := rfl
@[go_sem] theorem M34 : md0 34 = .ext false := rfl
@[go_sem] theorem M59 : md0 59 = .ext false := rfl
@[go_sem] theorem M36 : md0 36 = .ext true := rfl
@[go_sem] theorem M37 : md0 37 = .ext false := rfl
@[go_sem] theorem M39 : md0 39 = .raw false := rfl
@[go_sem] theorem M60 : md0 60 = .ext true := rfl
@[go_sem] theorem M62 : md0 62 = .ext true := rfl
@[go_sem] theorem M53 : md0 53 = .ext true := rfl
@[go_sem] theorem M57 : md0 57 = .raw false := rfl
@[go_sem] theorem M58 : md0 58 = .raw false := rfl
end Go.Proofs.YtpmjpogcaglphaaDoor.A
