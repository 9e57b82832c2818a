/- Facts on the types' table, on how functions are called. -/
import Derived.Test.YtpmjpogcaglphaaDoorMLMOne5
import Derived.Test.YtpmjpogcaglphaaDoorMLMOne3
set_option linter.unusedVariables false
set_option linter.unusedSimpArgs false
set_option linter.unnecessarySimpa false
namespace Go.Proofs.YtpmjpogcaglphaaDoor.A
open Go
noncomputable def EX (md : FuncId → Mode) (X : FuncId → List AV → Option AV) : Env := ⟨Tryd.prog, md, X⟩
@[go_sem] theorem dB9 (md X) : (EX md X).P = Tryd.prog := rfl
@[go_sem] theorem dC0 (md X g) : (EX md X).mode g = md g := rfl
@[go_sem] theorem dC1 (md X g as_) : (EX md X).ext g as_ = X g as_ := rfl
@[go_sem] theorem T3s : n6 Tryd.prog 3 = some 1 := by kernel_rfl
@[go_sem] theorem T3a : I4 Tryd.prog 3 = some false := by kernel_rfl
@[go_sem] theorem T4s : n6 Tryd.prog 4 = some 1 := by kernel_rfl
@[go_sem] theorem T4a : I4 Tryd.prog 4 = some false := by kernel_rfl
@[go_sem] theorem dC2 (x y) : J8 Tryd.prog .neq 4 (.bool x) (.bool y) = some (.bool (!(x == y))) := bH0 (by kernel_rfl) x y
@[go_sem] theorem T9s : n6 Tryd.prog 9 = some 1 := by kernel_rfl
@[go_sem] theorem T9a : I4 Tryd.prog 9 = some false := by kernel_rfl
@[go_sem] theorem dC3 (x i) : T5 Tryd.prog 9 (.str x) i = if 0 ≤ i then (x[i.toNat]?).map fun b => .int .u8 b.toNat else none := cb4 (by kernel_rfl) x i
@[go_sem] theorem dC4 (o x) : O6 Tryd.prog o 9 (.str x) = some (.int .i64 x.length) := cu2 (by kernel_rfl) o x
@[go_sem] theorem dC5 : n6 Tryd.prog 22 = some 1 := by kernel_rfl
@[go_sem] theorem dC6 : I4 Tryd.prog 22 = some false := by kernel_rfl
@[go_sem] theorem dg7 (o n cs) : O6 Tryd.prog o 22 (.sl n cs) = some (.int .i64 n) := aB7 (e := 3) (by kernel_rfl) o n cs
@[go_sem] theorem dg8 (o k g off n) : O6 Tryd.prog o 22 (.ref k g off n) = some (.int .i64 n) := V7 (e := 3) (by kernel_rfl) o k g off n
@[go_sem] theorem dg9 (n cs i) : j5 Tryd.prog 22 (.sl n cs) i = if 0 ≤ i ∧ i < (n : Int) then some (.fptr (cs.drop (i.toNat * 1))) else none := V6 (s := 1) (by kernel_rfl) n cs i
@[go_sem] theorem dh0 (k g off n i) : j5 Tryd.prog 22 (.ref k g off n) i = if 0 ≤ i ∧ i < (n : Int) then some (.ptr k g (off + i.toNat * 1)) else none := M9 (s := 1) (by kernel_rfl) k g off n i
@[go_sem] theorem dh1 (k g off n lo hi) : U5 Tryd.prog 22 (.ref k g off n) lo hi = if 0 ≤ lo.getD 0 ∧ lo.getD 0 ≤ hi.getD n ∧ hi.getD n ≤ n then some (.ref k g (off + (lo.getD 0).toNat * 1) ((hi.getD n).toNat - (lo.getD 0).toNat)) else none := bo4 (s := 0) (by kernel_rfl) k g off n lo hi
@[go_sem] theorem dt0 (k g off n x o nx) : R8 Tryd.prog 22 (.ref k g off n) x ⟨o, nx⟩ = (E0 o x).bind fun q => (O8 (o k) g).bind (aI7 k off n 1 q.1 q.2 o nx) := aI8 (by kernel_rfl) k g off n x o nx
@[go_sem] theorem dt1 (tg l c o nx) : r8 Tryd.prog tg 22 l c ⟨o, nx⟩ = if 0 ≤ l ∧ l ≤ c ∧ c * 8 ≤ U3 ∧ c ≤ U3 then some (.ref tg tg 0 l.toNat, ⟨upd o tg (.row ⟨3, 1, tg, false, true, rep [AV.int .i64 0] l.toNat⟩), nx⟩) else none := av4 (e := 3) (s := 0) (b := 8) (z := [AV.int .i64 0]) (by kernel_rfl) (by kernel_rfl) (by kernel_rfl) (by kernel_rfl) rfl tg l c o nx
@[go_sem] theorem dt2 (tg n ps o nx) : m8 Tryd.prog tg 22 n ps ⟨o, nx⟩ = if n * 1 ≤ 16777216 then (y8 (fun i => some (i * 1, 1)) (rep [AV.int .i64 0] n) ps).map (fun cs => (.ref tg tg 0 n, ⟨upd o tg (.row ⟨3, 1, tg, false, true, cs⟩), nx⟩)) else none := ah2 (e := 3) (s := 0) (z := [AV.int .i64 0]) (by kernel_rfl) (by kernel_rfl) (by kernel_rfl) rfl tg n ps o nx
@[go_sem] theorem dt3 (tg x y o nx) : w6 Tryd.prog tg 22 22 x y ⟨o, nx⟩ = (E0 o y).bind fun q => aI6 tg 3 1 8 x q.1 q.2 o nx := al7 (e := 3) (s := 0) (b := 7) (z := [AV.int .i64 0]) (by kernel_rfl) (by kernel_rfl) (by kernel_rfl) (by kernel_rfl) rfl (by kernel_rfl) tg x y o nx
@[go_sem] theorem dC7 : n6 Tryd.prog 24 = some 1 := by kernel_rfl
@[go_sem] theorem dC8 : I4 Tryd.prog 24 = some false := by kernel_rfl
@[go_sem] theorem dh2 (o n cs) : O6 Tryd.prog o 24 (.sl n cs) = some (.int .i64 n) := aB7 (e := 54) (by kernel_rfl) o n cs
@[go_sem] theorem dh3 (o k g off n) : O6 Tryd.prog o 24 (.ref k g off n) = some (.int .i64 n) := V7 (e := 54) (by kernel_rfl) o k g off n
@[go_sem] theorem dh4 (n cs i) : j5 Tryd.prog 24 (.sl n cs) i = if 0 ≤ i ∧ i < (n : Int) then some (.fptr (cs.drop (i.toNat * 5))) else none := V6 (s := 5) (by kernel_rfl) n cs i
@[go_sem] theorem dt4 (k g off n x o nx) : R8 Tryd.prog 24 (.ref k g off n) x ⟨o, nx⟩ = (E0 o x).bind fun q => (O8 (o k) g).bind (aI7 k off n 5 q.1 q.2 o nx) := aI8 (by kernel_rfl) k g off n x o nx
@[go_sem] theorem dt5 (tg l c o nx) : r8 Tryd.prog tg 24 l c ⟨o, nx⟩ = if 0 ≤ l ∧ l ≤ c ∧ c * 40 ≤ U3 ∧ c ≤ U3 then some (.ref tg tg 0 l.toNat, ⟨upd o tg (.row ⟨54, 5, tg, false, true, rep [AV.int .i64 0, AV.int .i64 0, AV.int .i64 0, AV.int .i64 0, AV.int .i64 0] l.toNat⟩), nx⟩) else none := av4 (e := 54) (s := 4) (b := 40) (z := [AV.int .i64 0, AV.int .i64 0, AV.int .i64 0, AV.int .i64 0, AV.int .i64 0]) (by kernel_rfl) (by kernel_rfl) (by kernel_rfl) (by kernel_rfl) rfl tg l c o nx
@[go_sem] theorem dt6 (tg n ps o nx) : m8 Tryd.prog tg 24 n ps ⟨o, nx⟩ = if n * 5 ≤ 16777216 then (y8 (fun i => some (i * 5, 5)) (rep [AV.int .i64 0, AV.int .i64 0, AV.int .i64 0, AV.int .i64 0, AV.int .i64 0] n) ps).map (fun cs => (.ref tg tg 0 n, ⟨upd o tg (.row ⟨54, 5, tg, false, true, cs⟩), nx⟩)) else none := ah2 (e := 54) (s := 4) (z := [AV.int .i64 0, AV.int .i64 0, AV.int .i64 0, AV.int .i64 0, AV.int .i64 0]) (by kernel_rfl) (by kernel_rfl) (by kernel_rfl) rfl tg n ps o nx
@[go_sem] theorem dt7 (tg x y o nx) : w6 Tryd.prog tg 24 24 x y ⟨o, nx⟩ = (E0 o y).bind fun q => aI6 tg 54 5 40 x q.1 q.2 o nx := al7 (e := 54) (s := 4) (b := 39) (z := [AV.int .i64 0, AV.int .i64 0, AV.int .i64 0, AV.int .i64 0, AV.int .i64 0]) (by kernel_rfl) (by kernel_rfl) (by kernel_rfl) (by kernel_rfl) rfl (by kernel_rfl) tg x y o nx
@[go_sem] theorem dC9 : n6 Tryd.prog 25 = some 1 := by kernel_rfl
@[go_sem] theorem dD0 : I4 Tryd.prog 25 = some false := by kernel_rfl
@[go_sem] theorem dh5 (o n cs) : O6 Tryd.prog o 25 (.sl n cs) = some (.int .i64 n) := aB7 (e := 4) (by kernel_rfl) o n cs
@[go_sem] theorem dh6 (o k g off n) : O6 Tryd.prog o 25 (.ref k g off n) = some (.int .i64 n) := V7 (e := 4) (by kernel_rfl) o k g off n
@[go_sem] theorem dh7 (n cs i) : j5 Tryd.prog 25 (.sl n cs) i = if 0 ≤ i ∧ i < (n : Int) then some (.fptr (cs.drop (i.toNat * 1))) else none := V6 (s := 1) (by kernel_rfl) n cs i
@[go_sem] theorem dh8 (k g off n i) : j5 Tryd.prog 25 (.ref k g off n) i = if 0 ≤ i ∧ i < (n : Int) then some (.ptr k g (off + i.toNat * 1)) else none := M9 (s := 1) (by kernel_rfl) k g off n i
@[go_sem] theorem dt8 (k g off n x o nx) : R8 Tryd.prog 25 (.ref k g off n) x ⟨o, nx⟩ = (E0 o x).bind fun q => (O8 (o k) g).bind (aI7 k off n 1 q.1 q.2 o nx) := aI8 (by kernel_rfl) k g off n x o nx
@[go_sem] theorem dt9 (tg l c o nx) : r8 Tryd.prog tg 25 l c ⟨o, nx⟩ = if 0 ≤ l ∧ l ≤ c ∧ c * 1 ≤ U3 ∧ c ≤ U3 then some (.ref tg tg 0 l.toNat, ⟨upd o tg (.row ⟨4, 1, tg, false, true, rep [AV.bool false] l.toNat⟩), nx⟩) else none := av4 (e := 4) (s := 0) (b := 1) (z := [AV.bool false]) (by kernel_rfl) (by kernel_rfl) (by kernel_rfl) (by kernel_rfl) rfl tg l c o nx
@[go_sem] theorem du0 (tg n ps o nx) : m8 Tryd.prog tg 25 n ps ⟨o, nx⟩ = if n * 1 ≤ 16777216 then (y8 (fun i => some (i * 1, 1)) (rep [AV.bool false] n) ps).map (fun cs => (.ref tg tg 0 n, ⟨upd o tg (.row ⟨4, 1, tg, false, true, cs⟩), nx⟩)) else none := ah2 (e := 4) (s := 0) (z := [AV.bool false]) (by kernel_rfl) (by kernel_rfl) (by kernel_rfl) rfl tg n ps o nx
@[go_sem] theorem du1 (tg x y o nx) : w6 Tryd.prog tg 25 25 x y ⟨o, nx⟩ = (E0 o y).bind fun q => aI6 tg 4 1 1 x q.1 q.2 o nx := al7 (e := 4) (s := 0) (b := 0) (z := [AV.bool false]) (by kernel_rfl) (by kernel_rfl) (by kernel_rfl) (by kernel_rfl) rfl (by kernel_rfl) tg x y o nx
@[go_sem] theorem dD1 : n6 Tryd.prog 27 = some 2 := by kernel_rfl
@[go_sem] theorem dD2 : I4 Tryd.prog 27 = some true := by kernel_rfl
@[go_sem] theorem dD3 : G5 Tryd.prog 27 = some [AV.nil, AV.nil] := by kernel_rfl
@[go_sem] theorem dh9 (k g off) : d8 Tryd.prog 27 0 (.ptr k g off) = some (.ptr k g (off + 0)) := x8 (s := 0) (ft := 24) (by kernel_rfl) (by kernel_rfl) k g off
@[go_sem] theorem di0 (cs) : d8 Tryd.prog 27 0 (.fptr cs) = some (.fptr (cs.drop 0)) := Q2 (s := 0) (ft := 24) (by kernel_rfl) (by kernel_rfl) cs
@[go_sem] theorem di1 (k g off) : d8 Tryd.prog 27 1 (.ptr k g off) = some (.ptr k g (off + 1)) := x8 (s := 0) (ft := 25) (by kernel_rfl) (by kernel_rfl) k g off
@[go_sem] theorem du2 (xs) : E5 Tryd.prog 27 xs = (y8 (fun i => ([(0, 1), (1, 1)] : List (Nat × Nat))[i]?) [AV.nil, AV.nil] xs).map .agg := by kernel_rfl
@[go_sem] theorem dD4 : n6 Tryd.prog 33 = some 1 := by kernel_rfl
@[go_sem] theorem dD5 : I4 Tryd.prog 33 = some false := by kernel_rfl
@[go_sem] theorem di2 (o n cs) : O6 Tryd.prog o 33 (.sl n cs) = some (.int .i64 n) := aB7 (e := 75) (by kernel_rfl) o n cs
@[go_sem] theorem di3 (n cs i) : j5 Tryd.prog 33 (.sl n cs) i = if 0 ≤ i ∧ i < (n : Int) then some (.fptr (cs.drop (i.toNat * 3))) else none := V6 (s := 3) (by kernel_rfl) n cs i
@[go_sem] theorem dD6 : n6 Tryd.prog 35 = some 1 := by kernel_rfl
@[go_sem] theorem dD7 : I4 Tryd.prog 35 = some false := by kernel_rfl
@[go_sem] theorem di4 (o) : O6 Tryd.prog o 35 .nil = some (.int .i64 0) := aI5 (e := 37) (by kernel_rfl) o
@[go_sem] theorem di5 (o n cs) : O6 Tryd.prog o 35 (.sl n cs) = some (.int .i64 n) := aB7 (e := 37) (by kernel_rfl) o n cs
@[go_sem] theorem di6 (o k g off n) : O6 Tryd.prog o 35 (.ref k g off n) = some (.int .i64 n) := V7 (e := 37) (by kernel_rfl) o k g off n
@[go_sem] theorem di7 (n cs i) : j5 Tryd.prog 35 (.sl n cs) i = if 0 ≤ i ∧ i < (n : Int) then some (.fptr (cs.drop (i.toNat * 5))) else none := V6 (s := 5) (by kernel_rfl) n cs i
@[go_sem] theorem di8 (k g off n i) : j5 Tryd.prog 35 (.ref k g off n) i = if 0 ≤ i ∧ i < (n : Int) then some (.ptr k g (off + i.toNat * 5)) else none := M9 (s := 5) (by kernel_rfl) k g off n i
@[go_sem] theorem du3 (tg l c o nx) : r8 Tryd.prog tg 35 l c ⟨o, nx⟩ = if 0 ≤ l ∧ l ≤ c ∧ c * 56 ≤ U3 ∧ c ≤ U3 then some (.ref tg tg 0 l.toNat, ⟨upd o tg (.row ⟨37, 5, tg, false, true, rep [AV.int .i64 0, AV.int .i64 0, AV.int .i64 0, AV.int .i64 0, AV.nil] l.toNat⟩), nx⟩) else none := av4 (e := 37) (s := 4) (b := 56) (z := [AV.int .i64 0, AV.int .i64 0, AV.int .i64 0, AV.int .i64 0, AV.nil]) (by kernel_rfl) (by kernel_rfl) (by kernel_rfl) (by kernel_rfl) rfl tg l c o nx
@[go_sem] theorem du4 (tg n ps o nx) : m8 Tryd.prog tg 35 n ps ⟨o, nx⟩ = if n * 5 ≤ 16777216 then (y8 (fun i => some (i * 5, 5)) (rep [AV.int .i64 0, AV.int .i64 0, AV.int .i64 0, AV.int .i64 0, AV.nil] n) ps).map (fun cs => (.ref tg tg 0 n, ⟨upd o tg (.row ⟨37, 5, tg, false, true, cs⟩), nx⟩)) else none := ah2 (e := 37) (s := 4) (z := [AV.int .i64 0, AV.int .i64 0, AV.int .i64 0, AV.int .i64 0, AV.nil]) (by kernel_rfl) (by kernel_rfl) (by kernel_rfl) rfl tg n ps o nx
@[go_sem] theorem du5 (tg x y o nx) : w6 Tryd.prog tg 35 35 x y ⟨o, nx⟩ = (E0 o y).bind fun q => aI6 tg 37 5 56 x q.1 q.2 o nx := al7 (e := 37) (s := 4) (b := 55) (z := [AV.int .i64 0, AV.int .i64 0, AV.int .i64 0, AV.int .i64 0, AV.nil]) (by kernel_rfl) (by kernel_rfl) (by kernel_rfl) (by kernel_rfl) rfl (by kernel_rfl) tg x y o nx
@[go_sem] theorem dD8 : n6 Tryd.prog 37 = some 5 := by kernel_rfl
@[go_sem] theorem dD9 : I4 Tryd.prog 37 = some true := by kernel_rfl
@[go_sem] theorem dE0 : G5 Tryd.prog 37 = some [AV.int .i64 0, AV.int .i64 0, AV.int .i64 0, AV.int .i64 0, AV.nil] := by kernel_rfl
@[go_sem] theorem di9 (k g off) : d8 Tryd.prog 37 0 (.ptr k g off) = some (.ptr k g (off + 0)) := x8 (s := 0) (ft := 3) (by kernel_rfl) (by kernel_rfl) k g off
@[go_sem] theorem dj0 (cs) : aI4 Tryd.prog 37 0 (.agg cs) = Q7 Tryd.prog 3 (cs.drop 0) := cu1 (by kernel_rfl) cs
@[go_sem] theorem dj1 (k g off) : d8 Tryd.prog 37 1 (.ptr k g off) = some (.ptr k g (off + 1)) := x8 (s := 0) (ft := 3) (by kernel_rfl) (by kernel_rfl) k g off
@[go_sem] theorem dj2 (k g off) : d8 Tryd.prog 37 2 (.ptr k g off) = some (.ptr k g (off + 2)) := x8 (s := 0) (ft := 3) (by kernel_rfl) (by kernel_rfl) k g off
@[go_sem] theorem dj3 (k g off) : d8 Tryd.prog 37 3 (.ptr k g off) = some (.ptr k g (off + 3)) := x8 (s := 0) (ft := 3) (by kernel_rfl) (by kernel_rfl) k g off
@[go_sem] theorem dj4 (k g off) : d8 Tryd.prog 37 4 (.ptr k g off) = some (.ptr k g (off + 4)) := x8 (s := 0) (ft := 35) (by kernel_rfl) (by kernel_rfl) k g off
@[go_sem] theorem du6 (xs) : E5 Tryd.prog 37 xs = (y8 (fun i => ([(0, 1), (1, 1), (2, 1), (3, 1), (4, 1)] : List (Nat × Nat))[i]?) [AV.int .i64 0, AV.int .i64 0, AV.int .i64 0, AV.int .i64 0, AV.nil] xs).map .agg := by kernel_rfl
@[go_sem] theorem dE1 : n6 Tryd.prog 54 = some 5 := by kernel_rfl
@[go_sem] theorem dE2 : I4 Tryd.prog 54 = some true := by kernel_rfl
@[go_sem] theorem dE3 : G5 Tryd.prog 54 = some [AV.int .i64 0, AV.int .i64 0, AV.int .i64 0, AV.int .i64 0, AV.int .i64 0] := by kernel_rfl
@[go_sem] theorem dj5 (cs i) : j5 Tryd.prog 54 (.fptr cs) i = if 0 ≤ i ∧ i < 5 then some (.fptr (cs.drop (i.toNat * 1))) else none := bG5 (n := 5) (e := 3) (s := 1) (by kernel_rfl) (by kernel_rfl) cs i
@[go_sem] theorem dj6 (k g off i) : j5 Tryd.prog 54 (.ptr k g off) i = if 0 ≤ i ∧ i < 5 then some (.ptr k g (off + i.toNat * 1)) else none := aP6 (n := 5) (e := 3) (s := 1) (by kernel_rfl) (by kernel_rfl) k g off i
@[go_sem] theorem du7 (cs i) : T5 Tryd.prog 54 (.agg cs) i = if 0 ≤ i ∧ i < 5 then Q7 Tryd.prog 3 (cs.drop (i.toNat * 1)) else none := cb3 (n := 5) (e := 3) (s := 1) (by kernel_rfl) (by kernel_rfl) cs i
@[go_sem] theorem cW1 : E7 Tryd.prog 54 = some [Leaf.int, Leaf.int, Leaf.int, Leaf.int, Leaf.int] := by kernel_rfl
@[go_sem] theorem dj7 (cs) : d8 Tryd.prog 66 0 (.fptr cs) = some (.fptr (cs.drop 0)) := Q2 (s := 1) (ft := 27) (by kernel_rfl) (by kernel_rfl) cs
@[go_sem] theorem dj8 (k g off) : d8 Tryd.prog 66 1 (.ptr k g off) = some (.ptr k g (off + 2)) := x8 (s := 0) (ft := 22) (by kernel_rfl) (by kernel_rfl) k g off
@[go_sem] theorem dj9 (cs) : d8 Tryd.prog 66 1 (.fptr cs) = some (.fptr (cs.drop 2)) := Q2 (s := 0) (ft := 22) (by kernel_rfl) (by kernel_rfl) cs
@[go_sem] theorem du8 (xs) : E5 Tryd.prog 66 xs = (y8 (fun i => ([(0, 2), (2, 1)] : List (Nat × Nat))[i]?) [AV.nil, AV.nil, AV.nil] xs).map .agg := by kernel_rfl
@[go_sem] theorem du9 (m s ok o nx) : J4 Tryd.prog 68 (.mp m) (.int .i64 s) ok ⟨o, nx⟩ = (aB8 (o m)).bind fun es => (L9 (.int .i64 s) es).map (lkV ok (AV.int .i64 0)) := cw9 (kt := 3) (et := 3) (z := (AV.int .i64 0)) (k := .int .i64 s) (by kernel_rfl) (by kernel_rfl) (by kernel_rfl) m ok o nx
@[go_sem] theorem dv0 (m s v o nx) : n9 Tryd.prog 68 (.mp m) (.int .i64 s) v ⟨o, nx⟩ = (aB8 (o m)).bind (bH7 m (.int .i64 s) v o nx) := cx0 (kt := 3) (et := 3) (k := .int .i64 s) (by kernel_rfl) (by kernel_rfl) m v o nx
@[go_sem] theorem dE4 : n6 Tryd.prog 75 = some 3 := by kernel_rfl
@[go_sem] theorem dE5 : I4 Tryd.prog 75 = some true := by kernel_rfl
@[go_sem] theorem dk0 (k g off) : d8 Tryd.prog 75 0 (.ptr k g off) = some (.ptr k g (off + 0)) := x8 (s := 0) (ft := 3) (by kernel_rfl) (by kernel_rfl) k g off
@[go_sem] theorem dk1 (k g off) : d8 Tryd.prog 75 1 (.ptr k g off) = some (.ptr k g (off + 1)) := x8 (s := 0) (ft := 3) (by kernel_rfl) (by kernel_rfl) k g off
@[go_sem] theorem dk2 (k g off) : d8 Tryd.prog 75 2 (.ptr k g off) = some (.ptr k g (off + 2)) := x8 (s := 0) (ft := 33) (by kernel_rfl) (by kernel_rfl) k g off
@[go_sem] theorem dk3 (cs) : d8 Tryd.prog 75 2 (.fptr cs) = some (.fptr (cs.drop 2)) := Q2 (s := 0) (ft := 33) (by kernel_rfl) (by kernel_rfl) cs
@[go_sem] theorem dE6 : n6 Tryd.prog 79 = some 1 := by kernel_rfl
@[go_sem] theorem dE7 : I4 Tryd.prog 79 = some false := by kernel_rfl
@[go_sem] theorem dk4 (o) : O6 Tryd.prog o 79 .nil = some (.int .i64 0) := aI5 (e := 145) (by kernel_rfl) o
@[go_sem] theorem dk5 (o n cs) : O6 Tryd.prog o 79 (.sl n cs) = some (.int .i64 n) := aB7 (e := 145) (by kernel_rfl) o n cs
@[go_sem] theorem dk6 (o k g off n) : O6 Tryd.prog o 79 (.ref k g off n) = some (.int .i64 n) := V7 (e := 145) (by kernel_rfl) o k g off n
@[go_sem] theorem dk7 (n cs i) : j5 Tryd.prog 79 (.sl n cs) i = if 0 ≤ i ∧ i < (n : Int) then some (.fptr (cs.drop (i.toNat * 3))) else none := V6 (s := 3) (by kernel_rfl) n cs i
@[go_sem] theorem dk8 (k g off n i) : j5 Tryd.prog 79 (.ref k g off n) i = if 0 ≤ i ∧ i < (n : Int) then some (.ptr k g (off + i.toNat * 3)) else none := M9 (s := 3) (by kernel_rfl) k g off n i
@[go_sem] theorem dv1 (k g off n x o nx) : R8 Tryd.prog 79 (.ref k g off n) x ⟨o, nx⟩ = (E0 o x).bind fun q => (O8 (o k) g).bind (aI7 k off n 3 q.1 q.2 o nx) := aI8 (by kernel_rfl) k g off n x o nx
@[go_sem] theorem dv2 (tg l c o nx) : r8 Tryd.prog tg 79 l c ⟨o, nx⟩ = if 0 ≤ l ∧ l ≤ c ∧ c * 24 ≤ U3 ∧ c ≤ U3 then some (.ref tg tg 0 l.toNat, ⟨upd o tg (.row ⟨145, 3, tg, false, true, rep [AV.int .i64 0, AV.int .i64 0, AV.int .i64 0] l.toNat⟩), nx⟩) else none := av4 (e := 145) (s := 2) (b := 24) (z := [AV.int .i64 0, AV.int .i64 0, AV.int .i64 0]) (by kernel_rfl) (by kernel_rfl) (by kernel_rfl) (by kernel_rfl) rfl tg l c o nx
@[go_sem] theorem dv3 (tg n ps o nx) : m8 Tryd.prog tg 79 n ps ⟨o, nx⟩ = if n * 3 ≤ 16777216 then (y8 (fun i => some (i * 3, 3)) (rep [AV.int .i64 0, AV.int .i64 0, AV.int .i64 0] n) ps).map (fun cs => (.ref tg tg 0 n, ⟨upd o tg (.row ⟨145, 3, tg, false, true, cs⟩), nx⟩)) else none := ah2 (e := 145) (s := 2) (z := [AV.int .i64 0, AV.int .i64 0, AV.int .i64 0]) (by kernel_rfl) (by kernel_rfl) (by kernel_rfl) rfl tg n ps o nx
@[go_sem] theorem dv4 (tg x y o nx) : w6 Tryd.prog tg 79 79 x y ⟨o, nx⟩ = (E0 o y).bind fun q => aI6 tg 145 3 24 x q.1 q.2 o nx := al7 (e := 145) (s := 2) (b := 23) (z := [AV.int .i64 0, AV.int .i64 0, AV.int .i64 0]) (by kernel_rfl) (by kernel_rfl) (by kernel_rfl) (by kernel_rfl) rfl (by kernel_rfl) tg x y o nx
@[go_sem] theorem dE8 : n6 Tryd.prog 80 = some 1 := by kernel_rfl
@[go_sem] theorem dE9 : I4 Tryd.prog 80 = some false := by kernel_rfl
@[go_sem] theorem dk9 (o) : O6 Tryd.prog o 80 .nil = some (.int .i64 0) := aI5 (e := 100) (by kernel_rfl) o
@[go_sem] theorem dl0 (o n cs) : O6 Tryd.prog o 80 (.sl n cs) = some (.int .i64 n) := aB7 (e := 100) (by kernel_rfl) o n cs
@[go_sem] theorem dl1 (o k g off n) : O6 Tryd.prog o 80 (.ref k g off n) = some (.int .i64 n) := V7 (e := 100) (by kernel_rfl) o k g off n
@[go_sem] theorem dl2 (n cs i) : j5 Tryd.prog 80 (.sl n cs) i = if 0 ≤ i ∧ i < (n : Int) then some (.fptr (cs.drop (i.toNat * 2))) else none := V6 (s := 2) (by kernel_rfl) n cs i
@[go_sem] theorem dv5 (k g off n x o nx) : R8 Tryd.prog 80 (.ref k g off n) x ⟨o, nx⟩ = (E0 o x).bind fun q => (O8 (o k) g).bind (aI7 k off n 2 q.1 q.2 o nx) := aI8 (by kernel_rfl) k g off n x o nx
@[go_sem] theorem dv6 (tg l c o nx) : r8 Tryd.prog tg 80 l c ⟨o, nx⟩ = if 0 ≤ l ∧ l ≤ c ∧ c * 16 ≤ U3 ∧ c ≤ U3 then some (.ref tg tg 0 l.toNat, ⟨upd o tg (.row ⟨100, 2, tg, false, true, rep [AV.int .i64 0, AV.int .i64 0] l.toNat⟩), nx⟩) else none := av4 (e := 100) (s := 1) (b := 16) (z := [AV.int .i64 0, AV.int .i64 0]) (by kernel_rfl) (by kernel_rfl) (by kernel_rfl) (by kernel_rfl) rfl tg l c o nx
@[go_sem] theorem dv7 (tg n ps o nx) : m8 Tryd.prog tg 80 n ps ⟨o, nx⟩ = if n * 2 ≤ 16777216 then (y8 (fun i => some (i * 2, 2)) (rep [AV.int .i64 0, AV.int .i64 0] n) ps).map (fun cs => (.ref tg tg 0 n, ⟨upd o tg (.row ⟨100, 2, tg, false, true, cs⟩), nx⟩)) else none := ah2 (e := 100) (s := 1) (z := [AV.int .i64 0, AV.int .i64 0]) (by kernel_rfl) (by kernel_rfl) (by kernel_rfl) rfl tg n ps o nx
@[go_sem] theorem dv8 (tg x y o nx) : w6 Tryd.prog tg 80 80 x y ⟨o, nx⟩ = (E0 o y).bind fun q => aI6 tg 100 2 16 x q.1 q.2 o nx := al7 (e := 100) (s := 1) (b := 15) (z := [AV.int .i64 0, AV.int .i64 0]) (by kernel_rfl) (by kernel_rfl) (by kernel_rfl) (by kernel_rfl) rfl (by kernel_rfl) tg x y o nx
@[go_sem] theorem dF0 : n6 Tryd.prog 82 = some 5 := by kernel_rfl
@[go_sem] theorem dF1 : I4 Tryd.prog 82 = some true := by kernel_rfl
@[go_sem] theorem dF2 : G5 Tryd.prog 82 = some [AV.int .i64 0, AV.int .i64 0, AV.int .i64 0, AV.nil, AV.nil] := by kernel_rfl
@[go_sem] theorem dl3 (k g off) : d8 Tryd.prog 82 0 (.ptr k g off) = some (.ptr k g (off + 0)) := x8 (s := 0) (ft := 3) (by kernel_rfl) (by kernel_rfl) k g off
@[go_sem] theorem dl4 (k g off) : d8 Tryd.prog 82 1 (.ptr k g off) = some (.ptr k g (off + 1)) := x8 (s := 0) (ft := 3) (by kernel_rfl) (by kernel_rfl) k g off
@[go_sem] theorem dl5 (cs) : d8 Tryd.prog 82 2 (.fptr cs) = some (.fptr (cs.drop 2)) := Q2 (s := 0) (ft := 3) (by kernel_rfl) (by kernel_rfl) cs
@[go_sem] theorem dl6 (k g off) : d8 Tryd.prog 82 3 (.ptr k g off) = some (.ptr k g (off + 3)) := x8 (s := 0) (ft := 79) (by kernel_rfl) (by kernel_rfl) k g off
@[go_sem] theorem dl7 (k g off) : d8 Tryd.prog 82 4 (.ptr k g off) = some (.ptr k g (off + 4)) := x8 (s := 0) (ft := 80) (by kernel_rfl) (by kernel_rfl) k g off
@[go_sem] theorem dv9 (xs) : E5 Tryd.prog 82 xs = (y8 (fun i => ([(0, 1), (1, 1), (2, 1), (3, 1), (4, 1)] : List (Nat × Nat))[i]?) [AV.int .i64 0, AV.int .i64 0, AV.int .i64 0, AV.nil, AV.nil] xs).map .agg := by kernel_rfl
@[go_sem] theorem dw0 (tg n ps o nx) : m8 Tryd.prog tg 88 n ps ⟨o, nx⟩ = if n * 1 ≤ 16777216 then (y8 (fun i => some (i * 1, 1)) (rep [AV.int .u8 0] n) ps).map (fun cs => (.ref tg tg 0 n, ⟨upd o tg (.row ⟨5, 1, tg, false, true, cs⟩), nx⟩)) else none := ah2 (e := 5) (s := 0) (z := [AV.int .u8 0]) (by kernel_rfl) (by kernel_rfl) (by kernel_rfl) rfl tg n ps o nx
@[go_sem] theorem dF3 : n6 Tryd.prog 90 = some 4 := by kernel_rfl
@[go_sem] theorem dF4 : I4 Tryd.prog 90 = some true := by kernel_rfl
@[go_sem] theorem dF5 : G5 Tryd.prog 90 = some [AV.int .i64 0, AV.int .i64 0, AV.int .i64 0, AV.int .i64 0] := by kernel_rfl
@[go_sem] theorem dl8 (k g off) : d8 Tryd.prog 90 0 (.ptr k g off) = some (.ptr k g (off + 0)) := x8 (s := 0) (ft := 3) (by kernel_rfl) (by kernel_rfl) k g off
@[go_sem] theorem dl9 (k g off) : d8 Tryd.prog 90 1 (.ptr k g off) = some (.ptr k g (off + 1)) := x8 (s := 0) (ft := 3) (by kernel_rfl) (by kernel_rfl) k g off
@[go_sem] theorem dm0 (cs) : d8 Tryd.prog 90 2 (.fptr cs) = some (.fptr (cs.drop 2)) := Q2 (s := 0) (ft := 3) (by kernel_rfl) (by kernel_rfl) cs
@[go_sem] theorem dm1 (cs) : d8 Tryd.prog 90 3 (.fptr cs) = some (.fptr (cs.drop 3)) := Q2 (s := 0) (ft := 3) (by kernel_rfl) (by kernel_rfl) cs
@[go_sem] theorem dw1 (xs) : E5 Tryd.prog 90 xs = (y8 (fun i => ([(0, 1), (1, 1), (2, 1), (3, 1)] : List (Nat × Nat))[i]?) [AV.int .i64 0, AV.int .i64 0, AV.int .i64 0, AV.int .i64 0] xs).map .agg := by kernel_rfl
@[go_sem] theorem dm2 (o k g off n) : O6 Tryd.prog o 91 (.ref k g off n) = some (.int .i64 n) := V7 (e := 90) (by kernel_rfl) o k g off n
@[go_sem] theorem dm3 (n cs i) : j5 Tryd.prog 91 (.sl n cs) i = if 0 ≤ i ∧ i < (n : Int) then some (.fptr (cs.drop (i.toNat * 4))) else none := V6 (s := 4) (by kernel_rfl) n cs i
@[go_sem] theorem dm4 (k g off n i) : j5 Tryd.prog 91 (.ref k g off n) i = if 0 ≤ i ∧ i < (n : Int) then some (.ptr k g (off + i.toNat * 4)) else none := M9 (s := 4) (by kernel_rfl) k g off n i
@[go_sem] theorem dw2 (tg n ps o nx) : m8 Tryd.prog tg 91 n ps ⟨o, nx⟩ = if n * 4 ≤ 16777216 then (y8 (fun i => some (i * 4, 4)) (rep [AV.int .i64 0, AV.int .i64 0, AV.int .i64 0, AV.int .i64 0] n) ps).map (fun cs => (.ref tg tg 0 n, ⟨upd o tg (.row ⟨90, 4, tg, false, true, cs⟩), nx⟩)) else none := ah2 (e := 90) (s := 3) (z := [AV.int .i64 0, AV.int .i64 0, AV.int .i64 0, AV.int .i64 0]) (by kernel_rfl) (by kernel_rfl) (by kernel_rfl) rfl tg n ps o nx
@[go_sem] theorem dw3 (tg x y o nx) : w6 Tryd.prog tg 91 91 x y ⟨o, nx⟩ = (E0 o y).bind fun q => aI6 tg 90 4 32 x q.1 q.2 o nx := al7 (e := 90) (s := 3) (b := 31) (z := [AV.int .i64 0, AV.int .i64 0, AV.int .i64 0, AV.int .i64 0]) (by kernel_rfl) (by kernel_rfl) (by kernel_rfl) (by kernel_rfl) rfl (by kernel_rfl) tg x y o nx
@[go_sem] theorem dm5 (o k g off n) : O6 Tryd.prog o 92 (.ref k g off n) = some (.int .i64 n) := V7 (e := 25) (by kernel_rfl) o k g off n
@[go_sem] theorem dm6 (k g off n i) : j5 Tryd.prog 92 (.ref k g off n) i = if 0 ≤ i ∧ i < (n : Int) then some (.ptr k g (off + i.toNat * 1)) else none := M9 (s := 1) (by kernel_rfl) k g off n i
@[go_sem] theorem dw4 (tg l c o nx) : r8 Tryd.prog tg 92 l c ⟨o, nx⟩ = if 0 ≤ l ∧ l ≤ c ∧ c * 24 ≤ U3 ∧ c ≤ U3 then some (.ref tg tg 0 l.toNat, ⟨upd o tg (.row ⟨25, 1, tg, false, true, rep [AV.nil] l.toNat⟩), nx⟩) else none := av4 (e := 25) (s := 0) (b := 24) (z := [AV.nil]) (by kernel_rfl) (by kernel_rfl) (by kernel_rfl) (by kernel_rfl) rfl tg l c o nx
@[go_sem] theorem dm7 (o n cs) : O6 Tryd.prog o 97 (.sl n cs) = some (.int .i64 n) := aB7 (e := 4) (by kernel_rfl) o n cs
@[go_sem] theorem dm8 (n cs i) : j5 Tryd.prog 97 (.sl n cs) i = if 0 ≤ i ∧ i < (n : Int) then some (.fptr (cs.drop (i.toNat * 1))) else none := V6 (s := 1) (by kernel_rfl) n cs i
@[go_sem] theorem dm9 (k g off n i) : j5 Tryd.prog 97 (.ref k g off n) i = if 0 ≤ i ∧ i < (n : Int) then some (.ptr k g (off + i.toNat * 1)) else none := M9 (s := 1) (by kernel_rfl) k g off n i
@[go_sem] theorem dw5 (tg l c o nx) : r8 Tryd.prog tg 97 l c ⟨o, nx⟩ = if 0 ≤ l ∧ l ≤ c ∧ c * 1 ≤ U3 ∧ c ≤ U3 then some (.ref tg tg 0 l.toNat, ⟨upd o tg (.row ⟨4, 1, tg, false, true, rep [AV.bool false] l.toNat⟩), nx⟩) else none := av4 (e := 4) (s := 0) (b := 1) (z := [AV.bool false]) (by kernel_rfl) (by kernel_rfl) (by kernel_rfl) (by kernel_rfl) rfl tg l c o nx
@[go_sem] theorem dw6 (tg n ps o nx) : m8 Tryd.prog tg 97 n ps ⟨o, nx⟩ = if n * 1 ≤ 16777216 then (y8 (fun i => some (i * 1, 1)) (rep [AV.bool false] n) ps).map (fun cs => (.ref tg tg 0 n, ⟨upd o tg (.row ⟨4, 1, tg, false, true, cs⟩), nx⟩)) else none := ah2 (e := 4) (s := 0) (z := [AV.bool false]) (by kernel_rfl) (by kernel_rfl) (by kernel_rfl) rfl tg n ps o nx
@[go_sem] theorem dw7 (tg x y o nx) : w6 Tryd.prog tg 97 97 x y ⟨o, nx⟩ = (E0 o y).bind fun q => aI6 tg 4 1 1 x q.1 q.2 o nx := al7 (e := 4) (s := 0) (b := 0) (z := [AV.bool false]) (by kernel_rfl) (by kernel_rfl) (by kernel_rfl) (by kernel_rfl) rfl (by kernel_rfl) tg x y o nx
@[go_sem] theorem dw8 : n6 Tryd.prog 100 = some 2 := by kernel_rfl
@[go_sem] theorem dw9 : I4 Tryd.prog 100 = some true := by kernel_rfl
@[go_sem] theorem dx0 : G5 Tryd.prog 100 = some [AV.int .i64 0, AV.int .i64 0] := by kernel_rfl
@[go_sem] theorem cW2 (k g off i) : j5 Tryd.prog 100 (.ptr k g off) i = if 0 ≤ i ∧ i < 2 then some (.ptr k g (off + i.toNat * 1)) else none := aP6 (n := 2) (e := 3) (s := 1) (by kernel_rfl) (by kernel_rfl) k g off i
@[go_sem] theorem dn0 (xs) : E5 Tryd.prog 100 xs = (y8 (fun i => some (i * 1, 1)) [AV.int .i64 0, AV.int .i64 0] xs).map .agg := aW5 (n := 2) (e := 3) (by kernel_rfl) (by kernel_rfl) (by kernel_rfl) xs
@[go_sem] theorem cW3 (o n cs) : O6 Tryd.prog o 108 (.sl n cs) = some (.int .i64 n) := aB7 (e := 110) (by kernel_rfl) o n cs
@[go_sem] theorem cW4 (n cs i) : j5 Tryd.prog 108 (.sl n cs) i = if 0 ≤ i ∧ i < (n : Int) then some (.fptr (cs.drop (i.toNat * 6))) else none := V6 (s := 6) (by kernel_rfl) n cs i
@[go_sem] theorem dn1 (tg n ps o nx) : m8 Tryd.prog tg 108 n ps ⟨o, nx⟩ = if n * 6 ≤ 16777216 then (y8 (fun i => some (i * 6, 6)) (rep [AV.int .i64 0, AV.int .i64 0, AV.int .i64 0, AV.int .i64 0, AV.int .i64 0, AV.int .i64 0] n) ps).map (fun cs => (.ref tg tg 0 n, ⟨upd o tg (.row ⟨110, 6, tg, false, true, cs⟩), nx⟩)) else none := ah2 (e := 110) (s := 5) (z := [AV.int .i64 0, AV.int .i64 0, AV.int .i64 0, AV.int .i64 0, AV.int .i64 0, AV.int .i64 0]) (by kernel_rfl) (by kernel_rfl) (by kernel_rfl) rfl tg n ps o nx
@[go_sem] theorem dn2 (tg x y o nx) : w6 Tryd.prog tg 108 108 x y ⟨o, nx⟩ = (E0 o y).bind fun q => aI6 tg 110 6 48 x q.1 q.2 o nx := al7 (e := 110) (s := 5) (b := 47) (z := [AV.int .i64 0, AV.int .i64 0, AV.int .i64 0, AV.int .i64 0, AV.int .i64 0, AV.int .i64 0]) (by kernel_rfl) (by kernel_rfl) (by kernel_rfl) (by kernel_rfl) rfl (by kernel_rfl) tg x y o nx
@[go_sem] theorem dx1 : n6 Tryd.prog 110 = some 6 := by kernel_rfl
@[go_sem] theorem dx2 : I4 Tryd.prog 110 = some true := by kernel_rfl
@[go_sem] theorem dx3 : G5 Tryd.prog 110 = some [AV.int .i64 0, AV.int .i64 0, AV.int .i64 0, AV.int .i64 0, AV.int .i64 0, AV.int .i64 0] := by kernel_rfl
@[go_sem] theorem cW5 (k g off i) : j5 Tryd.prog 110 (.ptr k g off) i = if 0 ≤ i ∧ i < 6 then some (.ptr k g (off + i.toNat * 1)) else none := aP6 (n := 6) (e := 3) (s := 1) (by kernel_rfl) (by kernel_rfl) k g off i
@[go_sem] theorem dn3 (xs) : E5 Tryd.prog 110 xs = (y8 (fun i => some (i * 1, 1)) [AV.int .i64 0, AV.int .i64 0, AV.int .i64 0, AV.int .i64 0, AV.int .i64 0, AV.int .i64 0] xs).map .agg := aW5 (n := 6) (e := 3) (by kernel_rfl) (by kernel_rfl) (by kernel_rfl) xs
@[go_sem] theorem cx5 : E7 Tryd.prog 110 = some [Leaf.int, Leaf.int, Leaf.int, Leaf.int, Leaf.int, Leaf.int] := by kernel_rfl
@[go_sem] theorem dx4 : n6 Tryd.prog 116 = some 1 := by kernel_rfl
@[go_sem] theorem dx5 : I4 Tryd.prog 116 = some false := by kernel_rfl
@[go_sem] theorem dx6 : G5 Tryd.prog 116 = some [AV.nilp] := by kernel_rfl
@[go_sem] theorem cW6 (k g off) : d8 Tryd.prog 118 0 (.ptr k g off) = some (.ptr k g (off + 0)) := x8 (s := 0) (ft := 35) (by kernel_rfl) (by kernel_rfl) k g off
@[go_sem] theorem cW7 (k g off) : d8 Tryd.prog 118 1 (.ptr k g off) = some (.ptr k g (off + 1)) := x8 (s := 0) (ft := 35) (by kernel_rfl) (by kernel_rfl) k g off
@[go_sem] theorem dn4 (xs) : E5 Tryd.prog 118 xs = (y8 (fun i => ([(0, 1), (1, 1)] : List (Nat × Nat))[i]?) [AV.nil, AV.nil] xs).map .agg := by kernel_rfl
@[go_sem] theorem dx7 : n6 Tryd.prog 119 = some 1 := by kernel_rfl
@[go_sem] theorem dx8 : I4 Tryd.prog 119 = some false := by kernel_rfl
@[go_sem] theorem cW8 (o k g off n) : O6 Tryd.prog o 119 (.ref k g off n) = some (.int .i64 n) := V7 (e := 118) (by kernel_rfl) o k g off n
@[go_sem] theorem cW9 (k g off n i) : j5 Tryd.prog 119 (.ref k g off n) i = if 0 ≤ i ∧ i < (n : Int) then some (.ptr k g (off + i.toNat * 2)) else none := M9 (s := 2) (by kernel_rfl) k g off n i
@[go_sem] theorem cX0 (k g off n lo hi) : U5 Tryd.prog 119 (.ref k g off n) lo hi = if 0 ≤ lo.getD 0 ∧ lo.getD 0 ≤ hi.getD n ∧ hi.getD n ≤ n then some (.ref k g (off + (lo.getD 0).toNat * 2) ((hi.getD n).toNat - (lo.getD 0).toNat)) else none := bo4 (s := 1) (by kernel_rfl) k g off n lo hi
@[go_sem] theorem dn5 (tg n ps o nx) : m8 Tryd.prog tg 119 n ps ⟨o, nx⟩ = if n * 2 ≤ 16777216 then (y8 (fun i => some (i * 2, 2)) (rep [AV.nil, AV.nil] n) ps).map (fun cs => (.ref tg tg 0 n, ⟨upd o tg (.row ⟨118, 2, tg, false, true, cs⟩), nx⟩)) else none := ah2 (e := 118) (s := 1) (z := [AV.nil, AV.nil]) (by kernel_rfl) (by kernel_rfl) (by kernel_rfl) rfl tg n ps o nx
@[go_sem] theorem dn6 (tg x y o nx) : w6 Tryd.prog tg 119 119 x y ⟨o, nx⟩ = (E0 o y).bind fun q => aI6 tg 118 2 48 x q.1 q.2 o nx := al7 (e := 118) (s := 1) (b := 47) (z := [AV.nil, AV.nil]) (by kernel_rfl) (by kernel_rfl) (by kernel_rfl) (by kernel_rfl) rfl (by kernel_rfl) tg x y o nx
@[go_sem] theorem cX1 (k g off) : d8 Tryd.prog 121 0 (.ptr k g off) = some (.ptr k g (off + 0)) := x8 (s := 0) (ft := 9) (by kernel_rfl) (by kernel_rfl) k g off
@[go_sem] theorem cX2 (cs) : d8 Tryd.prog 121 0 (.fptr cs) = some (.fptr (cs.drop 0)) := Q2 (s := 0) (ft := 9) (by kernel_rfl) (by kernel_rfl) cs
@[go_sem] theorem cX3 (k g off) : d8 Tryd.prog 121 1 (.ptr k g off) = some (.ptr k g (off + 1)) := x8 (s := 0) (ft := 3) (by kernel_rfl) (by kernel_rfl) k g off
@[go_sem] theorem cX4 (cs) : d8 Tryd.prog 121 1 (.fptr cs) = some (.fptr (cs.drop 1)) := Q2 (s := 0) (ft := 3) (by kernel_rfl) (by kernel_rfl) cs
@[go_sem] theorem cX5 (k g off) : d8 Tryd.prog 121 2 (.ptr k g off) = some (.ptr k g (off + 2)) := x8 (s := 0) (ft := 119) (by kernel_rfl) (by kernel_rfl) k g off
@[go_sem] theorem dn7 (xs) : E5 Tryd.prog 121 xs = (y8 (fun i => ([(0, 1), (1, 1), (2, 1)] : List (Nat × Nat))[i]?) [AV.str [], AV.int .i64 0, AV.nil] xs).map .agg := by kernel_rfl
@[go_sem] theorem cX6 (k g off) : d8 Tryd.prog 134 0 (.ptr k g off) = some (.ptr k g (off + 0)) := x8 (s := 4) (ft := 82) (by kernel_rfl) (by kernel_rfl) k g off
@[go_sem] theorem dn8 (xs) : E5 Tryd.prog 134 xs = (y8 (fun i => ([(0, 5)] : List (Nat × Nat))[i]?) [AV.int .i64 0, AV.int .i64 0, AV.int .i64 0, AV.nil, AV.nil] xs).map .agg := by kernel_rfl
@[go_sem] theorem dx9 : n6 Tryd.prog 136 = some 2 := by kernel_rfl
@[go_sem] theorem dy0 : I4 Tryd.prog 136 = some true := by kernel_rfl
@[go_sem] theorem dy1 : G5 Tryd.prog 136 = some [AV.int .i64 0, AV.int .i64 0] := by kernel_rfl
@[go_sem] theorem cX7 (k g off) : d8 Tryd.prog 136 0 (.ptr k g off) = some (.ptr k g (off + 0)) := x8 (s := 0) (ft := 3) (by kernel_rfl) (by kernel_rfl) k g off
@[go_sem] theorem cX8 (k g off) : d8 Tryd.prog 136 1 (.ptr k g off) = some (.ptr k g (off + 1)) := x8 (s := 0) (ft := 3) (by kernel_rfl) (by kernel_rfl) k g off
@[go_sem] theorem dn9 (xs) : E5 Tryd.prog 136 xs = (y8 (fun i => ([(0, 1), (1, 1)] : List (Nat × Nat))[i]?) [AV.int .i64 0, AV.int .i64 0] xs).map .agg := by kernel_rfl
@[go_sem] theorem dy2 : n6 Tryd.prog 139 = some 1 := by kernel_rfl
@[go_sem] theorem dy3 : I4 Tryd.prog 139 = some false := by kernel_rfl
@[go_sem] theorem cX9 (k g off n i) : j5 Tryd.prog 139 (.ref k g off n) i = if 0 ≤ i ∧ i < (n : Int) then some (.ptr k g (off + i.toNat * 1)) else none := M9 (s := 1) (by kernel_rfl) k g off n i
@[go_sem] theorem do0 (tg l c o nx) : r8 Tryd.prog tg 139 l c ⟨o, nx⟩ = if 0 ≤ l ∧ l ≤ c ∧ c * 24 ≤ U3 ∧ c ≤ U3 then some (.ref tg tg 0 l.toNat, ⟨upd o tg (.row ⟨79, 1, tg, false, true, rep [AV.nil] l.toNat⟩), nx⟩) else none := av4 (e := 79) (s := 0) (b := 24) (z := [AV.nil]) (by kernel_rfl) (by kernel_rfl) (by kernel_rfl) (by kernel_rfl) rfl tg l c o nx
@[go_sem] theorem dy4 : n6 Tryd.prog 140 = some 1 := by kernel_rfl
@[go_sem] theorem dy5 : I4 Tryd.prog 140 = some false := by kernel_rfl
@[go_sem] theorem do1 (m s ok o nx) : J4 Tryd.prog 140 (.mp m) (.str s) ok ⟨o, nx⟩ = (aB8 (o m)).bind fun es => (L9 (.str s) es).map (lkV ok (AV.int .i64 0)) := cw9 (kt := 9) (et := 3) (z := (AV.int .i64 0)) (k := .str s) (by kernel_rfl) (by kernel_rfl) (by kernel_rfl) m ok o nx
@[go_sem] theorem do2 (m s v o nx) : n9 Tryd.prog 140 (.mp m) (.str s) v ⟨o, nx⟩ = (aB8 (o m)).bind (bH7 m (.str s) v o nx) := cx0 (kt := 9) (et := 3) (k := .str s) (by kernel_rfl) (by kernel_rfl) m v o nx
@[go_sem] theorem dy6 : n6 Tryd.prog 141 = some 1 := by kernel_rfl
@[go_sem] theorem dy7 : I4 Tryd.prog 141 = some false := by kernel_rfl
@[go_sem] theorem cY0 (o) : O6 Tryd.prog o 141 .nil = some (.int .i64 0) := aI5 (e := 22) (by kernel_rfl) o
@[go_sem] theorem cY1 (o k g off n) : O6 Tryd.prog o 141 (.ref k g off n) = some (.int .i64 n) := V7 (e := 22) (by kernel_rfl) o k g off n
@[go_sem] theorem cY2 (n cs i) : j5 Tryd.prog 141 (.sl n cs) i = if 0 ≤ i ∧ i < (n : Int) then some (.fptr (cs.drop (i.toNat * 1))) else none := V6 (s := 1) (by kernel_rfl) n cs i
@[go_sem] theorem cY3 (k g off n i) : j5 Tryd.prog 141 (.ref k g off n) i = if 0 ≤ i ∧ i < (n : Int) then some (.ptr k g (off + i.toNat * 1)) else none := M9 (s := 1) (by kernel_rfl) k g off n i
@[go_sem] theorem do3 (tg l c o nx) : r8 Tryd.prog tg 141 l c ⟨o, nx⟩ = if 0 ≤ l ∧ l ≤ c ∧ c * 24 ≤ U3 ∧ c ≤ U3 then some (.ref tg tg 0 l.toNat, ⟨upd o tg (.row ⟨22, 1, tg, false, true, rep [AV.nil] l.toNat⟩), nx⟩) else none := av4 (e := 22) (s := 0) (b := 24) (z := [AV.nil]) (by kernel_rfl) (by kernel_rfl) (by kernel_rfl) (by kernel_rfl) rfl tg l c o nx
@[go_sem] theorem do4 (tg n ps o nx) : m8 Tryd.prog tg 141 n ps ⟨o, nx⟩ = if n * 1 ≤ 16777216 then (y8 (fun i => some (i * 1, 1)) (rep [AV.nil] n) ps).map (fun cs => (.ref tg tg 0 n, ⟨upd o tg (.row ⟨22, 1, tg, false, true, cs⟩), nx⟩)) else none := ah2 (e := 22) (s := 0) (z := [AV.nil]) (by kernel_rfl) (by kernel_rfl) (by kernel_rfl) rfl tg n ps o nx
@[go_sem] theorem do5 (tg x y o nx) : w6 Tryd.prog tg 141 141 x y ⟨o, nx⟩ = (E0 o y).bind fun q => aI6 tg 22 1 24 x q.1 q.2 o nx := al7 (e := 22) (s := 0) (b := 23) (z := [AV.nil]) (by kernel_rfl) (by kernel_rfl) (by kernel_rfl) (by kernel_rfl) rfl (by kernel_rfl) tg x y o nx
@[go_sem] theorem cY4 (k g off) : d8 Tryd.prog 143 0 (.ptr k g off) = some (.ptr k g (off + 0)) := x8 (s := 4) (ft := 82) (by kernel_rfl) (by kernel_rfl) k g off
@[go_sem] theorem cY5 (cs) : d8 Tryd.prog 143 0 (.fptr cs) = some (.fptr (cs.drop 0)) := Q2 (s := 4) (ft := 82) (by kernel_rfl) (by kernel_rfl) cs
@[go_sem] theorem cY6 (k g off) : d8 Tryd.prog 143 1 (.ptr k g off) = some (.ptr k g (off + 5)) := x8 (s := 0) (ft := 139) (by kernel_rfl) (by kernel_rfl) k g off
@[go_sem] theorem cY7 (k g off) : d8 Tryd.prog 143 2 (.ptr k g off) = some (.ptr k g (off + 6)) := x8 (s := 0) (ft := 140) (by kernel_rfl) (by kernel_rfl) k g off
@[go_sem] theorem cY8 (k g off) : d8 Tryd.prog 143 3 (.ptr k g off) = some (.ptr k g (off + 7)) := x8 (s := 0) (ft := 141) (by kernel_rfl) (by kernel_rfl) k g off
@[go_sem] theorem do6 (xs) : E5 Tryd.prog 143 xs = (y8 (fun i => ([(0, 5), (5, 1), (6, 1), (7, 1)] : List (Nat × Nat))[i]?) [AV.int .i64 0, AV.int .i64 0, AV.int .i64 0, AV.nil, AV.nil, AV.nil, AV.nilmp, AV.nil] xs).map .agg := by kernel_rfl
@[go_sem] theorem dy8 : n6 Tryd.prog 145 = some 3 := by kernel_rfl
@[go_sem] theorem dy9 : I4 Tryd.prog 145 = some true := by kernel_rfl
@[go_sem] theorem dz0 : G5 Tryd.prog 145 = some [AV.int .i64 0, AV.int .i64 0, AV.int .i64 0] := by kernel_rfl
@[go_sem] theorem cY9 (k g off) : d8 Tryd.prog 145 0 (.ptr k g off) = some (.ptr k g (off + 0)) := x8 (s := 0) (ft := 3) (by kernel_rfl) (by kernel_rfl) k g off
@[go_sem] theorem cZ0 (k g off) : d8 Tryd.prog 145 1 (.ptr k g off) = some (.ptr k g (off + 1)) := x8 (s := 0) (ft := 3) (by kernel_rfl) (by kernel_rfl) k g off
@[go_sem] theorem cZ1 (k g off) : d8 Tryd.prog 145 2 (.ptr k g off) = some (.ptr k g (off + 2)) := x8 (s := 0) (ft := 3) (by kernel_rfl) (by kernel_rfl) k g off
@[go_sem] theorem do7 (xs) : E5 Tryd.prog 145 xs = (y8 (fun i => ([(0, 1), (1, 1), (2, 1)] : List (Nat × Nat))[i]?) [AV.int .i64 0, AV.int .i64 0, AV.int .i64 0] xs).map .agg := by kernel_rfl
@[go_sem] theorem cZ2 (o) : O6 Tryd.prog o 159 .nil = some (.int .i64 0) := aI5 (e := 136) (by kernel_rfl) o
@[go_sem] theorem cZ3 (o k g off n) : O6 Tryd.prog o 159 (.ref k g off n) = some (.int .i64 n) := V7 (e := 136) (by kernel_rfl) o k g off n
@[go_sem] theorem cZ4 (k g off n i) : j5 Tryd.prog 159 (.ref k g off n) i = if 0 ≤ i ∧ i < (n : Int) then some (.ptr k g (off + i.toNat * 2)) else none := M9 (s := 2) (by kernel_rfl) k g off n i
@[go_sem] theorem cZ5 (k g off n lo hi) : U5 Tryd.prog 159 (.ref k g off n) lo hi = if 0 ≤ lo.getD 0 ∧ lo.getD 0 ≤ hi.getD n ∧ hi.getD n ≤ n then some (.ref k g (off + (lo.getD 0).toNat * 2) ((hi.getD n).toNat - (lo.getD 0).toNat)) else none := bo4 (s := 1) (by kernel_rfl) k g off n lo hi
@[go_sem] theorem do8 (tg n ps o nx) : m8 Tryd.prog tg 159 n ps ⟨o, nx⟩ = if n * 2 ≤ 16777216 then (y8 (fun i => some (i * 2, 2)) (rep [AV.int .i64 0, AV.int .i64 0] n) ps).map (fun cs => (.ref tg tg 0 n, ⟨upd o tg (.row ⟨136, 2, tg, false, true, cs⟩), nx⟩)) else none := ah2 (e := 136) (s := 1) (z := [AV.int .i64 0, AV.int .i64 0]) (by kernel_rfl) (by kernel_rfl) (by kernel_rfl) rfl tg n ps o nx
@[go_sem] theorem do9 (tg x y o nx) : w6 Tryd.prog tg 159 159 x y ⟨o, nx⟩ = (E0 o y).bind fun q => aI6 tg 136 2 16 x q.1 q.2 o nx := al7 (e := 136) (s := 1) (b := 15) (z := [AV.int .i64 0, AV.int .i64 0]) (by kernel_rfl) (by kernel_rfl) (by kernel_rfl) (by kernel_rfl) rfl (by kernel_rfl) tg x y o nx
@[go_sem] theorem dz1 : n6 Tryd.prog 165 = some 2 := by kernel_rfl
@[go_sem] theorem dz2 : I4 Tryd.prog 165 = some true := by kernel_rfl
@[go_sem] theorem dz3 : G5 Tryd.prog 165 = some [AV.int .i64 0, AV.nil] := by kernel_rfl
@[go_sem] theorem cZ6 (k g off) : d8 Tryd.prog 165 0 (.ptr k g off) = some (.ptr k g (off + 0)) := x8 (s := 0) (ft := 3) (by kernel_rfl) (by kernel_rfl) k g off
@[go_sem] theorem cZ7 (k g off) : d8 Tryd.prog 165 1 (.ptr k g off) = some (.ptr k g (off + 1)) := x8 (s := 0) (ft := 141) (by kernel_rfl) (by kernel_rfl) k g off
@[go_sem] theorem dp0 (xs) : E5 Tryd.prog 165 xs = (y8 (fun i => ([(0, 1), (1, 1)] : List (Nat × Nat))[i]?) [AV.int .i64 0, AV.nil] xs).map .agg := by kernel_rfl
@[go_sem] theorem dF6 (tg k n o nx) : f8 Tryd.prog tg 2 3 (.int k n) ⟨o, nx⟩ = some (.int .i64 (IntKind.wrap .i64 n), ⟨o, nx⟩) := u5 (td := .int .i64) (by kernel_rfl) (by kernel_rfl) tg k n o nx
@[go_sem] theorem dF7 (tg k n o nx) : f8 Tryd.prog tg 2 5 (.int k n) ⟨o, nx⟩ = some (.int .u8 (IntKind.wrap .u8 n), ⟨o, nx⟩) := u5 (td := .int .i64) (by kernel_rfl) (by kernel_rfl) tg k n o nx
@[go_sem] theorem dz4 (tg k n o nx) : f8 Tryd.prog tg 2 39 (.int k n) ⟨o, nx⟩ = some (.int .i64 (IntKind.wrap .i64 n), ⟨o, nx⟩) := u5 (td := .int .i64) (by kernel_rfl) (by kernel_rfl) tg k n o nx
@[go_sem] theorem dz5 (tg k n o nx) : f8 Tryd.prog tg 2 63 (.int k n) ⟨o, nx⟩ = some (.int .u64 (IntKind.wrap .u64 n), ⟨o, nx⟩) := u5 (td := .int .i64) (by kernel_rfl) (by kernel_rfl) tg k n o nx
@[go_sem] theorem dp1 (tg k n o nx) : f8 Tryd.prog tg 2 169 (.int k n) ⟨o, nx⟩ = some (.int .u64 (IntKind.wrap .u64 n), ⟨o, nx⟩) := u5 (td := .int .i64) (by kernel_rfl) (by kernel_rfl) tg k n o nx
@[go_sem] theorem dp2 (tg k n o nx) : f8 Tryd.prog tg 2 176 (.int k n) ⟨o, nx⟩ = some (.int .u32 (IntKind.wrap .u32 n), ⟨o, nx⟩) := u5 (td := .int .i64) (by kernel_rfl) (by kernel_rfl) tg k n o nx
@[go_sem] theorem dF8 (tg k n o nx) : f8 Tryd.prog tg 3 2 (.int k n) ⟨o, nx⟩ = some (.int .i64 (IntKind.wrap .i64 n), ⟨o, nx⟩) := u5 (td := .int .i64) (by kernel_rfl) (by kernel_rfl) tg k n o nx
@[go_sem] theorem dF9 (tg k n o nx) : f8 Tryd.prog tg 3 5 (.int k n) ⟨o, nx⟩ = some (.int .u8 (IntKind.wrap .u8 n), ⟨o, nx⟩) := u5 (td := .int .i64) (by kernel_rfl) (by kernel_rfl) tg k n o nx
@[go_sem] theorem dz6 (tg k n o nx) : f8 Tryd.prog tg 3 39 (.int k n) ⟨o, nx⟩ = some (.int .i64 (IntKind.wrap .i64 n), ⟨o, nx⟩) := u5 (td := .int .i64) (by kernel_rfl) (by kernel_rfl) tg k n o nx
@[go_sem] theorem dz7 (tg k n o nx) : f8 Tryd.prog tg 3 63 (.int k n) ⟨o, nx⟩ = some (.int .u64 (IntKind.wrap .u64 n), ⟨o, nx⟩) := u5 (td := .int .i64) (by kernel_rfl) (by kernel_rfl) tg k n o nx
@[go_sem] theorem dp3 (tg k n o nx) : f8 Tryd.prog tg 3 169 (.int k n) ⟨o, nx⟩ = some (.int .u64 (IntKind.wrap .u64 n), ⟨o, nx⟩) := u5 (td := .int .i64) (by kernel_rfl) (by kernel_rfl) tg k n o nx
@[go_sem] theorem dp4 (tg k n o nx) : f8 Tryd.prog tg 3 176 (.int k n) ⟨o, nx⟩ = some (.int .u32 (IntKind.wrap .u32 n), ⟨o, nx⟩) := u5 (td := .int .i64) (by kernel_rfl) (by kernel_rfl) tg k n o nx
@[go_sem] theorem dG0 (tg k n o nx) : f8 Tryd.prog tg 5 2 (.int k n) ⟨o, nx⟩ = some (.int .i64 (IntKind.wrap .i64 n), ⟨o, nx⟩) := u5 (td := .int .u8) (by kernel_rfl) (by kernel_rfl) tg k n o nx
@[go_sem] theorem dG1 (tg k n o nx) : f8 Tryd.prog tg 5 3 (.int k n) ⟨o, nx⟩ = some (.int .i64 (IntKind.wrap .i64 n), ⟨o, nx⟩) := u5 (td := .int .u8) (by kernel_rfl) (by kernel_rfl) tg k n o nx
@[go_sem] theorem dz8 (tg k n o nx) : f8 Tryd.prog tg 5 39 (.int k n) ⟨o, nx⟩ = some (.int .i64 (IntKind.wrap .i64 n), ⟨o, nx⟩) := u5 (td := .int .u8) (by kernel_rfl) (by kernel_rfl) tg k n o nx
@[go_sem] theorem dz9 (tg k n o nx) : f8 Tryd.prog tg 5 63 (.int k n) ⟨o, nx⟩ = some (.int .u64 (IntKind.wrap .u64 n), ⟨o, nx⟩) := u5 (td := .int .u8) (by kernel_rfl) (by kernel_rfl) tg k n o nx
@[go_sem] theorem dp5 (tg k n o nx) : f8 Tryd.prog tg 5 169 (.int k n) ⟨o, nx⟩ = some (.int .u64 (IntKind.wrap .u64 n), ⟨o, nx⟩) := u5 (td := .int .u8) (by kernel_rfl) (by kernel_rfl) tg k n o nx
@[go_sem] theorem dp6 (tg k n o nx) : f8 Tryd.prog tg 5 176 (.int k n) ⟨o, nx⟩ = some (.int .u32 (IntKind.wrap .u32 n), ⟨o, nx⟩) := u5 (td := .int .u8) (by kernel_rfl) (by kernel_rfl) tg k n o nx
@[go_sem] theorem dA0 (tg k n o nx) : f8 Tryd.prog tg 39 2 (.int k n) ⟨o, nx⟩ = some (.int .i64 (IntKind.wrap .i64 n), ⟨o, nx⟩) := u5 (td := .int .i64) (by kernel_rfl) (by kernel_rfl) tg k n o nx
@[go_sem] theorem dA1 (tg k n o nx) : f8 Tryd.prog tg 39 3 (.int k n) ⟨o, nx⟩ = some (.int .i64 (IntKind.wrap .i64 n), ⟨o, nx⟩) := u5 (td := .int .i64) (by kernel_rfl) (by kernel_rfl) tg k n o nx
@[go_sem] theorem dA2 (tg k n o nx) : f8 Tryd.prog tg 39 5 (.int k n) ⟨o, nx⟩ = some (.int .u8 (IntKind.wrap .u8 n), ⟨o, nx⟩) := u5 (td := .int .i64) (by kernel_rfl) (by kernel_rfl) tg k n o nx
@[go_sem] theorem dp7 (tg k n o nx) : f8 Tryd.prog tg 39 63 (.int k n) ⟨o, nx⟩ = some (.int .u64 (IntKind.wrap .u64 n), ⟨o, nx⟩) := u5 (td := .int .i64) (by kernel_rfl) (by kernel_rfl) tg k n o nx
@[go_sem] theorem cZ8 (tg k n o nx) : f8 Tryd.prog tg 39 169 (.int k n) ⟨o, nx⟩ = some (.int .u64 (IntKind.wrap .u64 n), ⟨o, nx⟩) := u5 (td := .int .i64) (by kernel_rfl) (by kernel_rfl) tg k n o nx
@[go_sem] theorem cZ9 (tg k n o nx) : f8 Tryd.prog tg 39 176 (.int k n) ⟨o, nx⟩ = some (.int .u32 (IntKind.wrap .u32 n), ⟨o, nx⟩) := u5 (td := .int .i64) (by kernel_rfl) (by kernel_rfl) tg k n o nx
@[go_sem] theorem dA3 (tg k n o nx) : f8 Tryd.prog tg 63 2 (.int k n) ⟨o, nx⟩ = some (.int .i64 (IntKind.wrap .i64 n), ⟨o, nx⟩) := u5 (td := .int .u64) (by kernel_rfl) (by kernel_rfl) tg k n o nx
@[go_sem] theorem dA4 (tg k n o nx) : f8 Tryd.prog tg 63 3 (.int k n) ⟨o, nx⟩ = some (.int .i64 (IntKind.wrap .i64 n), ⟨o, nx⟩) := u5 (td := .int .u64) (by kernel_rfl) (by kernel_rfl) tg k n o nx
@[go_sem] theorem dA5 (tg k n o nx) : f8 Tryd.prog tg 63 5 (.int k n) ⟨o, nx⟩ = some (.int .u8 (IntKind.wrap .u8 n), ⟨o, nx⟩) := u5 (td := .int .u64) (by kernel_rfl) (by kernel_rfl) tg k n o nx
@[go_sem] theorem dp8 (tg k n o nx) : f8 Tryd.prog tg 63 39 (.int k n) ⟨o, nx⟩ = some (.int .i64 (IntKind.wrap .i64 n), ⟨o, nx⟩) := u5 (td := .int .u64) (by kernel_rfl) (by kernel_rfl) tg k n o nx
@[go_sem] theorem da0 (tg k n o nx) : f8 Tryd.prog tg 63 169 (.int k n) ⟨o, nx⟩ = some (.int .u64 (IntKind.wrap .u64 n), ⟨o, nx⟩) := u5 (td := .int .u64) (by kernel_rfl) (by kernel_rfl) tg k n o nx
@[go_sem] theorem da1 (tg k n o nx) : f8 Tryd.prog tg 63 176 (.int k n) ⟨o, nx⟩ = some (.int .u32 (IntKind.wrap .u32 n), ⟨o, nx⟩) := u5 (td := .int .u64) (by kernel_rfl) (by kernel_rfl) tg k n o nx
@[go_sem] theorem dp9 (tg k n o nx) : f8 Tryd.prog tg 169 2 (.int k n) ⟨o, nx⟩ = some (.int .i64 (IntKind.wrap .i64 n), ⟨o, nx⟩) := u5 (td := .int .u64) (by kernel_rfl) (by kernel_rfl) tg k n o nx
@[go_sem] theorem dq0 (tg k n o nx) : f8 Tryd.prog tg 169 3 (.int k n) ⟨o, nx⟩ = some (.int .i64 (IntKind.wrap .i64 n), ⟨o, nx⟩) := u5 (td := .int .u64) (by kernel_rfl) (by kernel_rfl) tg k n o nx
@[go_sem] theorem dq1 (tg k n o nx) : f8 Tryd.prog tg 169 5 (.int k n) ⟨o, nx⟩ = some (.int .u8 (IntKind.wrap .u8 n), ⟨o, nx⟩) := u5 (td := .int .u64) (by kernel_rfl) (by kernel_rfl) tg k n o nx
@[go_sem] theorem da2 (tg k n o nx) : f8 Tryd.prog tg 169 39 (.int k n) ⟨o, nx⟩ = some (.int .i64 (IntKind.wrap .i64 n), ⟨o, nx⟩) := u5 (td := .int .u64) (by kernel_rfl) (by kernel_rfl) tg k n o nx
@[go_sem] theorem da3 (tg k n o nx) : f8 Tryd.prog tg 169 63 (.int k n) ⟨o, nx⟩ = some (.int .u64 (IntKind.wrap .u64 n), ⟨o, nx⟩) := u5 (td := .int .u64) (by kernel_rfl) (by kernel_rfl) tg k n o nx
@[go_sem] theorem cP3 (tg k n o nx) : f8 Tryd.prog tg 169 176 (.int k n) ⟨o, nx⟩ = some (.int .u32 (IntKind.wrap .u32 n), ⟨o, nx⟩) := u5 (td := .int .u64) (by kernel_rfl) (by kernel_rfl) tg k n o nx
@[go_sem] theorem dq2 (tg k n o nx) : f8 Tryd.prog tg 176 2 (.int k n) ⟨o, nx⟩ = some (.int .i64 (IntKind.wrap .i64 n), ⟨o, nx⟩) := u5 (td := .int .u32) (by kernel_rfl) (by kernel_rfl) tg k n o nx
@[go_sem] theorem dq3 (tg k n o nx) : f8 Tryd.prog tg 176 3 (.int k n) ⟨o, nx⟩ = some (.int .i64 (IntKind.wrap .i64 n), ⟨o, nx⟩) := u5 (td := .int .u32) (by kernel_rfl) (by kernel_rfl) tg k n o nx
@[go_sem] theorem dq4 (tg k n o nx) : f8 Tryd.prog tg 176 5 (.int k n) ⟨o, nx⟩ = some (.int .u8 (IntKind.wrap .u8 n), ⟨o, nx⟩) := u5 (td := .int .u32) (by kernel_rfl) (by kernel_rfl) tg k n o nx
@[go_sem] theorem da4 (tg k n o nx) : f8 Tryd.prog tg 176 39 (.int k n) ⟨o, nx⟩ = some (.int .i64 (IntKind.wrap .i64 n), ⟨o, nx⟩) := u5 (td := .int .u32) (by kernel_rfl) (by kernel_rfl) tg k n o nx
@[go_sem] theorem da5 (tg k n o nx) : f8 Tryd.prog tg 176 63 (.int k n) ⟨o, nx⟩ = some (.int .u64 (IntKind.wrap .u64 n), ⟨o, nx⟩) := u5 (td := .int .u32) (by kernel_rfl) (by kernel_rfl) tg k n o nx
@[go_sem] theorem cP4 (tg k n o nx) : f8 Tryd.prog tg 176 169 (.int k n) ⟨o, nx⟩ = some (.int .u64 (IntKind.wrap .u64 n), ⟨o, nx⟩) := u5 (td := .int .u32) (by kernel_rfl) (by kernel_rfl) tg k n o nx
def md0 (f : FuncId) : Mode := if f ∈ [22, 43, 64, 56, 28, 35, 38, 21, 31, 32, 17, 14, 25, 95, 99, 101, 102, 103, 81, 30, 19, 27, 20, 85, 51, 52, 61, 71, 72, 87, 88, 86, 98, 48, 49, 36, 60, 62, 53] then .ext true else if f ∈ [23, 44, 65, 29, 46, 79, 96, 97, 54, 55, 82, 83, 84, 15, 45, 47, 24, 16, 33, 18, 26, 42, 63, 40, 41, 69, 75, 50, 34, 59, 37] then .ext false else if f ∈ [] then .raw true else .raw false
@[go_sem] theorem M22 : md0 22 = .ext true := rfl
@[go_sem] theorem M23 : md0 23 = .ext false := rfl
@[go_sem] theorem M43 : md0 43 = .ext true := rfl
@[go_sem] theorem M64 : md0 64 = .ext true := rfl
@[go_sem] theorem M44 : md0 44 = .ext false := rfl
@[go_sem] theorem M65 : md0 65 = .ext false := rfl
@[go_sem] theorem M29 : md0 29 = .ext false := rfl
@[go_sem] theorem M56 : md0 56 = .ext true := rfl
@[go_sem] theorem M46 : md0 46 = .ext false := rfl
@[go_sem] theorem M79 : md0 79 = .ext false := rfl
@[go_sem] theorem M96 : md0 96 = .ext false := rfl
@[go_sem] theorem M97 : md0 97 = .ext false := rfl
@[go_sem] theorem M28 : md0 28 = .ext true := rfl
@[go_sem] theorem M54 : md0 54 = .ext false := rfl
@[go_sem] theorem M55 : md0 55 = .ext false := rfl
@[go_sem] theorem M82 : md0 82 = .ext false := rfl
@[go_sem] theorem M83 : md0 83 = .ext false := rfl
@[go_sem] theorem M84 : md0 84 = .ext false := rfl
@[go_sem] theorem M35 : md0 35 = .ext true := rfl
@[go_sem] theorem M38 : md0 38 = .ext true := rfl
@[go_sem] theorem M15 : md0 15 = .ext false := rfl
@[go_sem] theorem M21 : md0 21 = .ext true := rfl
@[go_sem] theorem M31 : md0 31 = .ext true := rfl
@[go_sem] theorem M32 : md0 32 = .ext true := rfl
@[go_sem] theorem M17 : md0 17 = .ext true := rfl
@[go_sem] theorem M76 : md0 76 = .raw false := rfl
@[go_sem] theorem M90 : md0 90 = .raw false := rfl
@[go_sem] theorem M91 : md0 91 = .raw false := rfl
@[go_sem] theorem M92 : md0 92 = .raw false := rfl
@[go_sem] theorem M77 : md0 77 = .raw false := rfl
@[go_sem] theorem M93 : md0 93 = .raw false := rfl
@[go_sem] theorem M94 : md0 94 = .raw false := rfl
@[go_sem] theorem M14 : md0 14 = .ext true := rfl
@[go_sem] theorem M45 : md0 45 = .ext false := rfl
@[go_sem] theorem M25 : md0 25 = .ext true := rfl
@[go_sem] theorem M47 : md0 47 = .ext false := rfl
@[go_sem] theorem M95 : md0 95 = .ext true := rfl
@[go_sem] theorem M99 : md0 99 = .ext true := rfl
@[go_sem] theorem dG2 : md0 101 = .ext true := rfl
@[go_sem] theorem dG3 : md0 102 = .ext true := rfl
@[go_sem] theorem dG4 : md0 103 = .ext true := rfl
@[go_sem] theorem M78 : md0 78 = .raw false := rfl
@[go_sem] theorem M80 : md0 80 = .raw false := rfl
@[go_sem] theorem M81 : md0 81 = .ext true := rfl
@[go_sem] theorem M30 : md0 30 = .ext true := rfl
@[go_sem] theorem M24 : md0 24 = .ext false := rfl
@[go_sem] theorem M16 : md0 16 = .ext false := rfl
@[go_sem] theorem M19 : md0 19 = .ext true := rfl
@[go_sem] theorem M27 : md0 27 = .ext true := rfl
@[go_sem] theorem M33 : md0 33 = .ext false := rfl
@[go_sem] theorem M18 : md0 18 = .ext false := rfl
@[go_sem] theorem M20 : md0 20 = .ext true := rfl
@[go_sem] theorem M26 : md0 26 = .ext false := rfl
@[go_sem] theorem M42 : md0 42 = .ext false := rfl
@[go_sem] theorem M63 : md0 63 = .ext false := rfl
@[go_sem] theorem M85 : md0 85 = .ext true := rfl
@[go_sem] theorem M40 : md0 40 = .ext false := rfl
@[go_sem] theorem M41 : md0 41 = .ext false := rfl
@[go_sem] theorem M51 : md0 51 = .ext true := rfl
@[go_sem] theorem M52 : md0 52 = .ext true := rfl
@[go_sem] theorem M61 : md0 61 = .ext true := rfl
@[go_sem] theorem M69 : md0 69 = .ext false := rfl
@[go_sem] theorem M71 : md0 71 = .ext true := rfl
@[go_sem] theorem M75 : md0 75 = .ext false := rfl
@[go_sem] theorem M72 : md0 72 = .ext true := rfl
@[go_sem] theorem M87 : md0 87 = .ext true := rfl
@[go_sem] theorem M88 : md0 88 = .ext true := rfl
@[go_sem] theorem M86 : md0 86 = .ext true := rfl
@[go_sem] theorem M67 : md0 67 = .raw false := rfl
@[go_sem] theorem M68 : md0 68 = .raw false := rfl
@[go_sem] theorem M74 : md0 74 = .raw false := rfl
@[go_sem] theorem M89 : md0 89 = .raw false := rfl
@[go_sem] theorem M70 : md0 70 = .raw false := rfl
@[go_sem] theorem M73 : md0 73 = .raw false := rfl
@[go_sem] theorem M66 : md0 66 = .raw false := rfl
@[go_sem] theorem M98 : md0 98 = .ext true := rfl
@[go_sem] theorem M48 : md0 48 = .ext true := rfl
@[go_sem] theorem M49 : md0 49 = .ext true := rfl
@[go_sem] theorem M50 : md0 50 = .ext false := rfl
@[go_sem] theorem M34 : md0 34 = .ext false := rfl
@[go_sem] theorem M59 : md0 59 = .ext false := rfl
@[go_sem] theorem M36 : md0 36 = .ext true := rfl
@[go_sem] theorem M37 : md0 37 = .ext false := rfl
@[go_sem] theorem M39 : md0 39 = .raw false := rfl
@[go_sem] theorem M60 : md0 60 = .ext true := rfl
@[go_sem] theorem M62 : md0 62 = .ext true := rfl
@[go_sem] theorem M53 : md0 53 = .ext true := rfl
@[go_sem] theorem M57 : md0 57 = .raw false := rfl
@[go_sem] theorem M58 : md0 58 = .raw false := rfl
end Go.Proofs.YtpmjpogcaglphaaDoor.A
