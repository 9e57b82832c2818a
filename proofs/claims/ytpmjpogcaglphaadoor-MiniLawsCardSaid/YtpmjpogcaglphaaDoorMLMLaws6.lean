/- Facts on the types' table, on how functions are called. -/
import Derived.Test.YtpmjpogcaglphaaDoorMLMLaws5
import Derived.Test.YtpmjpogcaglphaaDoorMLMLaws3
set_option linter.unusedVariables false
set_option linter.unusedSimpArgs false
set_option linter.unnecessarySimpa false
namespace Go.Proofs.YtpmjpogcaglphaaDoor.A
open Go
noncomputable def EX (md : FuncId → Mode) (X : FuncId → List AV → Option AV) : Env := ⟨Tryd.prog, md, X⟩
@[go_sem] theorem dp6 (md X) : (EX md X).P = Tryd.prog := rfl
@[go_sem] theorem dp7 (md X g) : (EX md X).mode g = md g := rfl
@[go_sem] theorem dp8 (md X g as_) : (EX md X).ext g as_ = X g as_ := rfl
@[go_sem] theorem T3s : l9 Tryd.prog 3 = some 1 := by kernel_rfl
@[go_sem] theorem T3a : G9 Tryd.prog 3 = some false := by kernel_rfl
@[go_sem] theorem T4s : l9 Tryd.prog 4 = some 1 := by kernel_rfl
@[go_sem] theorem T4a : G9 Tryd.prog 4 = some false := by kernel_rfl
@[go_sem] theorem dp9 (x y) : I1 Tryd.prog .neq 4 (.bool x) (.bool y) = some (.bool (!(x == y))) := bz7 (by kernel_rfl) x y
@[go_sem] theorem T9s : l9 Tryd.prog 9 = some 1 := by kernel_rfl
@[go_sem] theorem T9a : G9 Tryd.prog 9 = some false := by kernel_rfl
@[go_sem] theorem dq0 (x i) : R1 Tryd.prog 9 (.str x) i = if 0 ≤ i then (x[i.toNat]?).map fun b => .int .u8 b.toNat else none := bR2 (by kernel_rfl) x i
@[go_sem] theorem dq1 (o x) : N6 Tryd.prog o 9 (.str x) = some (.int .i64 x.length) := ci9 (by kernel_rfl) o x
@[go_sem] theorem dq2 : l9 Tryd.prog 22 = some 1 := by kernel_rfl
@[go_sem] theorem dq3 : G9 Tryd.prog 22 = some false := by kernel_rfl
@[go_sem] theorem cW3 (o n cs) : N6 Tryd.prog o 22 (.sl n cs) = some (.int .i64 n) := aF7 (e := 3) (by kernel_rfl) o n cs
@[go_sem] theorem cW4 (o k g off n) : N6 Tryd.prog o 22 (.ref k g off n) = some (.int .i64 n) := X5 (e := 3) (by kernel_rfl) o k g off n
@[go_sem] theorem cW5 (n cs i) : j6 Tryd.prog 22 (.sl n cs) i = if 0 ≤ i ∧ i < (n : Int) then some (.fptr (cs.drop (i.toNat * 1))) else none := aa7 (s := 1) (by kernel_rfl) n cs i
@[go_sem] theorem cW6 (k g off n i) : j6 Tryd.prog 22 (.ref k g off n) i = if 0 ≤ i ∧ i < (n : Int) then some (.ptr k g (off + i.toNat * 1)) else none := Q4 (s := 1) (by kernel_rfl) k g off n i
@[go_sem] theorem cW7 (k g off n lo hi) : R7 Tryd.prog 22 (.ref k g off n) lo hi = if 0 ≤ lo.getD 0 ∧ lo.getD 0 ≤ hi.getD n ∧ hi.getD n ≤ n then some (.ref k g (off + (lo.getD 0).toNat * 1) ((hi.getD n).toNat - (lo.getD 0).toNat)) else none := bj9 (s := 0) (by kernel_rfl) k g off n lo hi
@[go_sem] theorem dh5 (k g off n x o nx) : P7 Tryd.prog 22 (.ref k g off n) x ⟨o, nx⟩ = (D2 o x).bind fun q => (M7 (o k) g).bind (aF9 k off n 1 q.1 q.2 o nx) := aG0 (by kernel_rfl) k g off n x o nx
@[go_sem] theorem dh6 (tg l c o nx) : q7 Tryd.prog tg 22 l c ⟨o, nx⟩ = if 0 ≤ l ∧ l ≤ c ∧ c * 8 ≤ X4 ∧ c ≤ X4 then some (.ref tg tg 0 l.toNat, ⟨upd o tg (.row ⟨3, 1, tg, false, true, rep [AV.int .i64 0] l.toNat⟩), nx⟩) else none := aF8 (e := 3) (s := 0) (b := 8) (z := [AV.int .i64 0]) (by kernel_rfl) (by kernel_rfl) (by kernel_rfl) (by kernel_rfl) rfl tg l c o nx
@[go_sem] theorem dh7 (tg n ps o nx) : l7 Tryd.prog tg 22 n ps ⟨o, nx⟩ = if n * 1 ≤ 16777216 then (y7 (fun i => some (i * 1, 1)) (rep [AV.int .i64 0] n) ps).map (fun cs => (.ref tg tg 0 n, ⟨upd o tg (.row ⟨3, 1, tg, false, true, cs⟩), nx⟩)) else none := ai6 (e := 3) (s := 0) (z := [AV.int .i64 0]) (by kernel_rfl) (by kernel_rfl) (by kernel_rfl) rfl tg n ps o nx
@[go_sem] theorem dh8 (tg x y o nx) : w6 Tryd.prog tg 22 22 x y ⟨o, nx⟩ = (D2 o y).bind fun q => aM4 tg 3 1 8 x q.1 q.2 o nx := as1 (e := 3) (s := 0) (b := 7) (z := [AV.int .i64 0]) (by kernel_rfl) (by kernel_rfl) (by kernel_rfl) (by kernel_rfl) rfl (by kernel_rfl) tg x y o nx
@[go_sem] theorem dq4 : l9 Tryd.prog 24 = some 1 := by kernel_rfl
@[go_sem] theorem dq5 : G9 Tryd.prog 24 = some false := by kernel_rfl
@[go_sem] theorem cW8 (o n cs) : N6 Tryd.prog o 24 (.sl n cs) = some (.int .i64 n) := aF7 (e := 54) (by kernel_rfl) o n cs
@[go_sem] theorem cW9 (o k g off n) : N6 Tryd.prog o 24 (.ref k g off n) = some (.int .i64 n) := X5 (e := 54) (by kernel_rfl) o k g off n
@[go_sem] theorem cX0 (n cs i) : j6 Tryd.prog 24 (.sl n cs) i = if 0 ≤ i ∧ i < (n : Int) then some (.fptr (cs.drop (i.toNat * 5))) else none := aa7 (s := 5) (by kernel_rfl) n cs i
@[go_sem] theorem dh9 (k g off n x o nx) : P7 Tryd.prog 24 (.ref k g off n) x ⟨o, nx⟩ = (D2 o x).bind fun q => (M7 (o k) g).bind (aF9 k off n 5 q.1 q.2 o nx) := aG0 (by kernel_rfl) k g off n x o nx
@[go_sem] theorem di0 (tg l c o nx) : q7 Tryd.prog tg 24 l c ⟨o, nx⟩ = if 0 ≤ l ∧ l ≤ c ∧ c * 40 ≤ X4 ∧ c ≤ X4 then some (.ref tg tg 0 l.toNat, ⟨upd o tg (.row ⟨54, 5, tg, false, true, rep [AV.int .i64 0, AV.int .i64 0, AV.int .i64 0, AV.int .i64 0, AV.int .i64 0] l.toNat⟩), nx⟩) else none := aF8 (e := 54) (s := 4) (b := 40) (z := [AV.int .i64 0, AV.int .i64 0, AV.int .i64 0, AV.int .i64 0, AV.int .i64 0]) (by kernel_rfl) (by kernel_rfl) (by kernel_rfl) (by kernel_rfl) rfl tg l c o nx
@[go_sem] theorem di1 (tg n ps o nx) : l7 Tryd.prog tg 24 n ps ⟨o, nx⟩ = if n * 5 ≤ 16777216 then (y7 (fun i => some (i * 5, 5)) (rep [AV.int .i64 0, AV.int .i64 0, AV.int .i64 0, AV.int .i64 0, AV.int .i64 0] n) ps).map (fun cs => (.ref tg tg 0 n, ⟨upd o tg (.row ⟨54, 5, tg, false, true, cs⟩), nx⟩)) else none := ai6 (e := 54) (s := 4) (z := [AV.int .i64 0, AV.int .i64 0, AV.int .i64 0, AV.int .i64 0, AV.int .i64 0]) (by kernel_rfl) (by kernel_rfl) (by kernel_rfl) rfl tg n ps o nx
@[go_sem] theorem di2 (tg x y o nx) : w6 Tryd.prog tg 24 24 x y ⟨o, nx⟩ = (D2 o y).bind fun q => aM4 tg 54 5 40 x q.1 q.2 o nx := as1 (e := 54) (s := 4) (b := 39) (z := [AV.int .i64 0, AV.int .i64 0, AV.int .i64 0, AV.int .i64 0, AV.int .i64 0]) (by kernel_rfl) (by kernel_rfl) (by kernel_rfl) (by kernel_rfl) rfl (by kernel_rfl) tg x y o nx
@[go_sem] theorem dq6 : l9 Tryd.prog 25 = some 1 := by kernel_rfl
@[go_sem] theorem dq7 : G9 Tryd.prog 25 = some false := by kernel_rfl
@[go_sem] theorem cX1 (o n cs) : N6 Tryd.prog o 25 (.sl n cs) = some (.int .i64 n) := aF7 (e := 4) (by kernel_rfl) o n cs
@[go_sem] theorem cX2 (o k g off n) : N6 Tryd.prog o 25 (.ref k g off n) = some (.int .i64 n) := X5 (e := 4) (by kernel_rfl) o k g off n
@[go_sem] theorem cX3 (n cs i) : j6 Tryd.prog 25 (.sl n cs) i = if 0 ≤ i ∧ i < (n : Int) then some (.fptr (cs.drop (i.toNat * 1))) else none := aa7 (s := 1) (by kernel_rfl) n cs i
@[go_sem] theorem cX4 (k g off n i) : j6 Tryd.prog 25 (.ref k g off n) i = if 0 ≤ i ∧ i < (n : Int) then some (.ptr k g (off + i.toNat * 1)) else none := Q4 (s := 1) (by kernel_rfl) k g off n i
@[go_sem] theorem di3 (k g off n x o nx) : P7 Tryd.prog 25 (.ref k g off n) x ⟨o, nx⟩ = (D2 o x).bind fun q => (M7 (o k) g).bind (aF9 k off n 1 q.1 q.2 o nx) := aG0 (by kernel_rfl) k g off n x o nx
@[go_sem] theorem di4 (tg l c o nx) : q7 Tryd.prog tg 25 l c ⟨o, nx⟩ = if 0 ≤ l ∧ l ≤ c ∧ c * 1 ≤ X4 ∧ c ≤ X4 then some (.ref tg tg 0 l.toNat, ⟨upd o tg (.row ⟨4, 1, tg, false, true, rep [AV.bool false] l.toNat⟩), nx⟩) else none := aF8 (e := 4) (s := 0) (b := 1) (z := [AV.bool false]) (by kernel_rfl) (by kernel_rfl) (by kernel_rfl) (by kernel_rfl) rfl tg l c o nx
@[go_sem] theorem di5 (tg n ps o nx) : l7 Tryd.prog tg 25 n ps ⟨o, nx⟩ = if n * 1 ≤ 16777216 then (y7 (fun i => some (i * 1, 1)) (rep [AV.bool false] n) ps).map (fun cs => (.ref tg tg 0 n, ⟨upd o tg (.row ⟨4, 1, tg, false, true, cs⟩), nx⟩)) else none := ai6 (e := 4) (s := 0) (z := [AV.bool false]) (by kernel_rfl) (by kernel_rfl) (by kernel_rfl) rfl tg n ps o nx
@[go_sem] theorem di6 (tg x y o nx) : w6 Tryd.prog tg 25 25 x y ⟨o, nx⟩ = (D2 o y).bind fun q => aM4 tg 4 1 1 x q.1 q.2 o nx := as1 (e := 4) (s := 0) (b := 0) (z := [AV.bool false]) (by kernel_rfl) (by kernel_rfl) (by kernel_rfl) (by kernel_rfl) rfl (by kernel_rfl) tg x y o nx
@[go_sem] theorem dq8 : l9 Tryd.prog 27 = some 2 := by kernel_rfl
@[go_sem] theorem dq9 : G9 Tryd.prog 27 = some true := by kernel_rfl
@[go_sem] theorem dr0 : F8 Tryd.prog 27 = some [AV.nil, AV.nil] := by kernel_rfl
@[go_sem] theorem cX5 (k g off) : d9 Tryd.prog 27 0 (.ptr k g off) = some (.ptr k g (off + 0)) := x7 (s := 0) (ft := 24) (by kernel_rfl) (by kernel_rfl) k g off
@[go_sem] theorem cX6 (cs) : d9 Tryd.prog 27 0 (.fptr cs) = some (.fptr (cs.drop 0)) := T2 (s := 0) (ft := 24) (by kernel_rfl) (by kernel_rfl) cs
@[go_sem] theorem cX7 (k g off) : d9 Tryd.prog 27 1 (.ptr k g off) = some (.ptr k g (off + 1)) := x7 (s := 0) (ft := 25) (by kernel_rfl) (by kernel_rfl) k g off
@[go_sem] theorem di7 (xs) : D3 Tryd.prog 27 xs = (y7 (fun i => ([(0, 1), (1, 1)] : List (Nat × Nat))[i]?) [AV.nil, AV.nil] xs).map .agg := by kernel_rfl
@[go_sem] theorem dr1 : l9 Tryd.prog 33 = some 1 := by kernel_rfl
@[go_sem] theorem dr2 : G9 Tryd.prog 33 = some false := by kernel_rfl
@[go_sem] theorem cX8 (o n cs) : N6 Tryd.prog o 33 (.sl n cs) = some (.int .i64 n) := aF7 (e := 75) (by kernel_rfl) o n cs
@[go_sem] theorem cX9 (n cs i) : j6 Tryd.prog 33 (.sl n cs) i = if 0 ≤ i ∧ i < (n : Int) then some (.fptr (cs.drop (i.toNat * 3))) else none := aa7 (s := 3) (by kernel_rfl) n cs i
@[go_sem] theorem dr3 : l9 Tryd.prog 35 = some 1 := by kernel_rfl
@[go_sem] theorem dr4 : G9 Tryd.prog 35 = some false := by kernel_rfl
@[go_sem] theorem cY0 (o) : N6 Tryd.prog o 35 .nil = some (.int .i64 0) := aF6 (e := 37) (by kernel_rfl) o
@[go_sem] theorem cY1 (o n cs) : N6 Tryd.prog o 35 (.sl n cs) = some (.int .i64 n) := aF7 (e := 37) (by kernel_rfl) o n cs
@[go_sem] theorem cY2 (o k g off n) : N6 Tryd.prog o 35 (.ref k g off n) = some (.int .i64 n) := X5 (e := 37) (by kernel_rfl) o k g off n
@[go_sem] theorem cY3 (n cs i) : j6 Tryd.prog 35 (.sl n cs) i = if 0 ≤ i ∧ i < (n : Int) then some (.fptr (cs.drop (i.toNat * 5))) else none := aa7 (s := 5) (by kernel_rfl) n cs i
@[go_sem] theorem cY4 (k g off n i) : j6 Tryd.prog 35 (.ref k g off n) i = if 0 ≤ i ∧ i < (n : Int) then some (.ptr k g (off + i.toNat * 5)) else none := Q4 (s := 5) (by kernel_rfl) k g off n i
@[go_sem] theorem di8 (tg l c o nx) : q7 Tryd.prog tg 35 l c ⟨o, nx⟩ = if 0 ≤ l ∧ l ≤ c ∧ c * 56 ≤ X4 ∧ c ≤ X4 then some (.ref tg tg 0 l.toNat, ⟨upd o tg (.row ⟨37, 5, tg, false, true, rep [AV.int .i64 0, AV.int .i64 0, AV.int .i64 0, AV.int .i64 0, AV.nil] l.toNat⟩), nx⟩) else none := aF8 (e := 37) (s := 4) (b := 56) (z := [AV.int .i64 0, AV.int .i64 0, AV.int .i64 0, AV.int .i64 0, AV.nil]) (by kernel_rfl) (by kernel_rfl) (by kernel_rfl) (by kernel_rfl) rfl tg l c o nx
@[go_sem] theorem di9 (tg n ps o nx) : l7 Tryd.prog tg 35 n ps ⟨o, nx⟩ = if n * 5 ≤ 16777216 then (y7 (fun i => some (i * 5, 5)) (rep [AV.int .i64 0, AV.int .i64 0, AV.int .i64 0, AV.int .i64 0, AV.nil] n) ps).map (fun cs => (.ref tg tg 0 n, ⟨upd o tg (.row ⟨37, 5, tg, false, true, cs⟩), nx⟩)) else none := ai6 (e := 37) (s := 4) (z := [AV.int .i64 0, AV.int .i64 0, AV.int .i64 0, AV.int .i64 0, AV.nil]) (by kernel_rfl) (by kernel_rfl) (by kernel_rfl) rfl tg n ps o nx
@[go_sem] theorem dj0 (tg x y o nx) : w6 Tryd.prog tg 35 35 x y ⟨o, nx⟩ = (D2 o y).bind fun q => aM4 tg 37 5 56 x q.1 q.2 o nx := as1 (e := 37) (s := 4) (b := 55) (z := [AV.int .i64 0, AV.int .i64 0, AV.int .i64 0, AV.int .i64 0, AV.nil]) (by kernel_rfl) (by kernel_rfl) (by kernel_rfl) (by kernel_rfl) rfl (by kernel_rfl) tg x y o nx
@[go_sem] theorem dr5 : l9 Tryd.prog 37 = some 5 := by kernel_rfl
@[go_sem] theorem dr6 : G9 Tryd.prog 37 = some true := by kernel_rfl
@[go_sem] theorem dr7 : F8 Tryd.prog 37 = some [AV.int .i64 0, AV.int .i64 0, AV.int .i64 0, AV.int .i64 0, AV.nil] := by kernel_rfl
@[go_sem] theorem cY5 (k g off) : d9 Tryd.prog 37 0 (.ptr k g off) = some (.ptr k g (off + 0)) := x7 (s := 0) (ft := 3) (by kernel_rfl) (by kernel_rfl) k g off
@[go_sem] theorem cY6 (cs) : aF5 Tryd.prog 37 0 (.agg cs) = O4 Tryd.prog 3 (cs.drop 0) := ci8 (by kernel_rfl) cs
@[go_sem] theorem cY7 (k g off) : d9 Tryd.prog 37 1 (.ptr k g off) = some (.ptr k g (off + 1)) := x7 (s := 0) (ft := 3) (by kernel_rfl) (by kernel_rfl) k g off
@[go_sem] theorem cY8 (k g off) : d9 Tryd.prog 37 2 (.ptr k g off) = some (.ptr k g (off + 2)) := x7 (s := 0) (ft := 3) (by kernel_rfl) (by kernel_rfl) k g off
@[go_sem] theorem cY9 (k g off) : d9 Tryd.prog 37 3 (.ptr k g off) = some (.ptr k g (off + 3)) := x7 (s := 0) (ft := 3) (by kernel_rfl) (by kernel_rfl) k g off
@[go_sem] theorem cZ0 (k g off) : d9 Tryd.prog 37 4 (.ptr k g off) = some (.ptr k g (off + 4)) := x7 (s := 0) (ft := 35) (by kernel_rfl) (by kernel_rfl) k g off
@[go_sem] theorem dj1 (xs) : D3 Tryd.prog 37 xs = (y7 (fun i => ([(0, 1), (1, 1), (2, 1), (3, 1), (4, 1)] : List (Nat × Nat))[i]?) [AV.int .i64 0, AV.int .i64 0, AV.int .i64 0, AV.int .i64 0, AV.nil] xs).map .agg := by kernel_rfl
@[go_sem] theorem cZ1 (o k g off n) : N6 Tryd.prog o 48 (.ref k g off n) = some (.int .i64 n) := X5 (e := 9) (by kernel_rfl) o k g off n
@[go_sem] theorem cZ2 (k g off n i) : j6 Tryd.prog 48 (.ref k g off n) i = if 0 ≤ i ∧ i < (n : Int) then some (.ptr k g (off + i.toNat * 1)) else none := Q4 (s := 1) (by kernel_rfl) k g off n i
@[go_sem] theorem cm2 (tg n ps o nx) : l7 Tryd.prog tg 48 n ps ⟨o, nx⟩ = if n * 1 ≤ 16777216 then (y7 (fun i => some (i * 1, 1)) (rep [AV.str []] n) ps).map (fun cs => (.ref tg tg 0 n, ⟨upd o tg (.row ⟨9, 1, tg, false, true, cs⟩), nx⟩)) else none := ai6 (e := 9) (s := 0) (z := [AV.str []]) (by kernel_rfl) (by kernel_rfl) (by kernel_rfl) rfl tg n ps o nx
@[go_sem] theorem dr8 : l9 Tryd.prog 54 = some 5 := by kernel_rfl
@[go_sem] theorem dr9 : G9 Tryd.prog 54 = some true := by kernel_rfl
@[go_sem] theorem ds0 : F8 Tryd.prog 54 = some [AV.int .i64 0, AV.int .i64 0, AV.int .i64 0, AV.int .i64 0, AV.int .i64 0] := by kernel_rfl
@[go_sem] theorem cZ3 (k g off i) : j6 Tryd.prog 54 (.ptr k g off) i = if 0 ≤ i ∧ i < 5 then some (.ptr k g (off + i.toNat * 1)) else none := aM3 (n := 5) (e := 3) (s := 1) (by kernel_rfl) (by kernel_rfl) k g off i
@[go_sem] theorem dj2 (cs i) : R1 Tryd.prog 54 (.agg cs) i = if 0 ≤ i ∧ i < 5 then O4 Tryd.prog 3 (cs.drop (i.toNat * 1)) else none := bR1 (n := 5) (e := 3) (s := 1) (by kernel_rfl) (by kernel_rfl) cs i
@[go_sem] theorem cK8 : D4 Tryd.prog 54 = some [Leaf.int, Leaf.int, Leaf.int, Leaf.int, Leaf.int] := by kernel_rfl
@[go_sem] theorem cZ4 (cs) : d9 Tryd.prog 66 0 (.fptr cs) = some (.fptr (cs.drop 0)) := T2 (s := 1) (ft := 27) (by kernel_rfl) (by kernel_rfl) cs
@[go_sem] theorem cZ5 (k g off) : d9 Tryd.prog 66 1 (.ptr k g off) = some (.ptr k g (off + 2)) := x7 (s := 0) (ft := 22) (by kernel_rfl) (by kernel_rfl) k g off
@[go_sem] theorem cZ6 (cs) : d9 Tryd.prog 66 1 (.fptr cs) = some (.fptr (cs.drop 2)) := T2 (s := 0) (ft := 22) (by kernel_rfl) (by kernel_rfl) cs
@[go_sem] theorem dj3 (xs) : D3 Tryd.prog 66 xs = (y7 (fun i => ([(0, 2), (2, 1)] : List (Nat × Nat))[i]?) [AV.nil, AV.nil, AV.nil] xs).map .agg := by kernel_rfl
@[go_sem] theorem dj4 (m s ok o nx) : H9 Tryd.prog 68 (.mp m) (.int .i64 s) ok ⟨o, nx⟩ = (az0 (o m)).bind fun es => (J9 (.int .i64 s) es).map (lkV ok (AV.int .i64 0)) := cl6 (kt := 3) (et := 3) (z := (AV.int .i64 0)) (k := .int .i64 s) (by kernel_rfl) (by kernel_rfl) (by kernel_rfl) m ok o nx
@[go_sem] theorem dj5 (m s v o nx) : m6 Tryd.prog 68 (.mp m) (.int .i64 s) v ⟨o, nx⟩ = (az0 (o m)).bind (bA4 m (.int .i64 s) v o nx) := cl7 (kt := 3) (et := 3) (k := .int .i64 s) (by kernel_rfl) (by kernel_rfl) m v o nx
@[go_sem] theorem ds1 : l9 Tryd.prog 75 = some 3 := by kernel_rfl
@[go_sem] theorem ds2 : G9 Tryd.prog 75 = some true := by kernel_rfl
@[go_sem] theorem cZ7 (k g off) : d9 Tryd.prog 75 0 (.ptr k g off) = some (.ptr k g (off + 0)) := x7 (s := 0) (ft := 3) (by kernel_rfl) (by kernel_rfl) k g off
@[go_sem] theorem cZ8 (k g off) : d9 Tryd.prog 75 1 (.ptr k g off) = some (.ptr k g (off + 1)) := x7 (s := 0) (ft := 3) (by kernel_rfl) (by kernel_rfl) k g off
@[go_sem] theorem cZ9 (k g off) : d9 Tryd.prog 75 2 (.ptr k g off) = some (.ptr k g (off + 2)) := x7 (s := 0) (ft := 33) (by kernel_rfl) (by kernel_rfl) k g off
@[go_sem] theorem da0 (cs) : d9 Tryd.prog 75 2 (.fptr cs) = some (.fptr (cs.drop 2)) := T2 (s := 0) (ft := 33) (by kernel_rfl) (by kernel_rfl) cs
@[go_sem] theorem ds3 : l9 Tryd.prog 79 = some 1 := by kernel_rfl
@[go_sem] theorem ds4 : G9 Tryd.prog 79 = some false := by kernel_rfl
@[go_sem] theorem da1 (o) : N6 Tryd.prog o 79 .nil = some (.int .i64 0) := aF6 (e := 145) (by kernel_rfl) o
@[go_sem] theorem da2 (o n cs) : N6 Tryd.prog o 79 (.sl n cs) = some (.int .i64 n) := aF7 (e := 145) (by kernel_rfl) o n cs
@[go_sem] theorem da3 (o k g off n) : N6 Tryd.prog o 79 (.ref k g off n) = some (.int .i64 n) := X5 (e := 145) (by kernel_rfl) o k g off n
@[go_sem] theorem da4 (n cs i) : j6 Tryd.prog 79 (.sl n cs) i = if 0 ≤ i ∧ i < (n : Int) then some (.fptr (cs.drop (i.toNat * 3))) else none := aa7 (s := 3) (by kernel_rfl) n cs i
@[go_sem] theorem da5 (k g off n i) : j6 Tryd.prog 79 (.ref k g off n) i = if 0 ≤ i ∧ i < (n : Int) then some (.ptr k g (off + i.toNat * 3)) else none := Q4 (s := 3) (by kernel_rfl) k g off n i
@[go_sem] theorem dj6 (k g off n x o nx) : P7 Tryd.prog 79 (.ref k g off n) x ⟨o, nx⟩ = (D2 o x).bind fun q => (M7 (o k) g).bind (aF9 k off n 3 q.1 q.2 o nx) := aG0 (by kernel_rfl) k g off n x o nx
@[go_sem] theorem dj7 (tg l c o nx) : q7 Tryd.prog tg 79 l c ⟨o, nx⟩ = if 0 ≤ l ∧ l ≤ c ∧ c * 24 ≤ X4 ∧ c ≤ X4 then some (.ref tg tg 0 l.toNat, ⟨upd o tg (.row ⟨145, 3, tg, false, true, rep [AV.int .i64 0, AV.int .i64 0, AV.int .i64 0] l.toNat⟩), nx⟩) else none := aF8 (e := 145) (s := 2) (b := 24) (z := [AV.int .i64 0, AV.int .i64 0, AV.int .i64 0]) (by kernel_rfl) (by kernel_rfl) (by kernel_rfl) (by kernel_rfl) rfl tg l c o nx
@[go_sem] theorem dj8 (tg n ps o nx) : l7 Tryd.prog tg 79 n ps ⟨o, nx⟩ = if n * 3 ≤ 16777216 then (y7 (fun i => some (i * 3, 3)) (rep [AV.int .i64 0, AV.int .i64 0, AV.int .i64 0] n) ps).map (fun cs => (.ref tg tg 0 n, ⟨upd o tg (.row ⟨145, 3, tg, false, true, cs⟩), nx⟩)) else none := ai6 (e := 145) (s := 2) (z := [AV.int .i64 0, AV.int .i64 0, AV.int .i64 0]) (by kernel_rfl) (by kernel_rfl) (by kernel_rfl) rfl tg n ps o nx
@[go_sem] theorem dj9 (tg x y o nx) : w6 Tryd.prog tg 79 79 x y ⟨o, nx⟩ = (D2 o y).bind fun q => aM4 tg 145 3 24 x q.1 q.2 o nx := as1 (e := 145) (s := 2) (b := 23) (z := [AV.int .i64 0, AV.int .i64 0, AV.int .i64 0]) (by kernel_rfl) (by kernel_rfl) (by kernel_rfl) (by kernel_rfl) rfl (by kernel_rfl) tg x y o nx
@[go_sem] theorem ds5 : l9 Tryd.prog 80 = some 1 := by kernel_rfl
@[go_sem] theorem ds6 : G9 Tryd.prog 80 = some false := by kernel_rfl
@[go_sem] theorem da6 (o) : N6 Tryd.prog o 80 .nil = some (.int .i64 0) := aF6 (e := 100) (by kernel_rfl) o
@[go_sem] theorem da7 (o n cs) : N6 Tryd.prog o 80 (.sl n cs) = some (.int .i64 n) := aF7 (e := 100) (by kernel_rfl) o n cs
@[go_sem] theorem da8 (o k g off n) : N6 Tryd.prog o 80 (.ref k g off n) = some (.int .i64 n) := X5 (e := 100) (by kernel_rfl) o k g off n
@[go_sem] theorem da9 (n cs i) : j6 Tryd.prog 80 (.sl n cs) i = if 0 ≤ i ∧ i < (n : Int) then some (.fptr (cs.drop (i.toNat * 2))) else none := aa7 (s := 2) (by kernel_rfl) n cs i
@[go_sem] theorem dk0 (k g off n x o nx) : P7 Tryd.prog 80 (.ref k g off n) x ⟨o, nx⟩ = (D2 o x).bind fun q => (M7 (o k) g).bind (aF9 k off n 2 q.1 q.2 o nx) := aG0 (by kernel_rfl) k g off n x o nx
@[go_sem] theorem dk1 (tg l c o nx) : q7 Tryd.prog tg 80 l c ⟨o, nx⟩ = if 0 ≤ l ∧ l ≤ c ∧ c * 16 ≤ X4 ∧ c ≤ X4 then some (.ref tg tg 0 l.toNat, ⟨upd o tg (.row ⟨100, 2, tg, false, true, rep [AV.int .i64 0, AV.int .i64 0] l.toNat⟩), nx⟩) else none := aF8 (e := 100) (s := 1) (b := 16) (z := [AV.int .i64 0, AV.int .i64 0]) (by kernel_rfl) (by kernel_rfl) (by kernel_rfl) (by kernel_rfl) rfl tg l c o nx
@[go_sem] theorem dk2 (tg n ps o nx) : l7 Tryd.prog tg 80 n ps ⟨o, nx⟩ = if n * 2 ≤ 16777216 then (y7 (fun i => some (i * 2, 2)) (rep [AV.int .i64 0, AV.int .i64 0] n) ps).map (fun cs => (.ref tg tg 0 n, ⟨upd o tg (.row ⟨100, 2, tg, false, true, cs⟩), nx⟩)) else none := ai6 (e := 100) (s := 1) (z := [AV.int .i64 0, AV.int .i64 0]) (by kernel_rfl) (by kernel_rfl) (by kernel_rfl) rfl tg n ps o nx
@[go_sem] theorem dk3 (tg x y o nx) : w6 Tryd.prog tg 80 80 x y ⟨o, nx⟩ = (D2 o y).bind fun q => aM4 tg 100 2 16 x q.1 q.2 o nx := as1 (e := 100) (s := 1) (b := 15) (z := [AV.int .i64 0, AV.int .i64 0]) (by kernel_rfl) (by kernel_rfl) (by kernel_rfl) (by kernel_rfl) rfl (by kernel_rfl) tg x y o nx
@[go_sem] theorem ds7 : l9 Tryd.prog 82 = some 5 := by kernel_rfl
@[go_sem] theorem ds8 : G9 Tryd.prog 82 = some true := by kernel_rfl
@[go_sem] theorem ds9 : F8 Tryd.prog 82 = some [AV.int .i64 0, AV.int .i64 0, AV.int .i64 0, AV.nil, AV.nil] := by kernel_rfl
@[go_sem] theorem db0 (k g off) : d9 Tryd.prog 82 0 (.ptr k g off) = some (.ptr k g (off + 0)) := x7 (s := 0) (ft := 3) (by kernel_rfl) (by kernel_rfl) k g off
@[go_sem] theorem db1 (k g off) : d9 Tryd.prog 82 1 (.ptr k g off) = some (.ptr k g (off + 1)) := x7 (s := 0) (ft := 3) (by kernel_rfl) (by kernel_rfl) k g off
@[go_sem] theorem db2 (cs) : d9 Tryd.prog 82 2 (.fptr cs) = some (.fptr (cs.drop 2)) := T2 (s := 0) (ft := 3) (by kernel_rfl) (by kernel_rfl) cs
@[go_sem] theorem db3 (k g off) : d9 Tryd.prog 82 3 (.ptr k g off) = some (.ptr k g (off + 3)) := x7 (s := 0) (ft := 79) (by kernel_rfl) (by kernel_rfl) k g off
@[go_sem] theorem db4 (k g off) : d9 Tryd.prog 82 4 (.ptr k g off) = some (.ptr k g (off + 4)) := x7 (s := 0) (ft := 80) (by kernel_rfl) (by kernel_rfl) k g off
@[go_sem] theorem dk4 (xs) : D3 Tryd.prog 82 xs = (y7 (fun i => ([(0, 1), (1, 1), (2, 1), (3, 1), (4, 1)] : List (Nat × Nat))[i]?) [AV.int .i64 0, AV.int .i64 0, AV.int .i64 0, AV.nil, AV.nil] xs).map .agg := by kernel_rfl
@[go_sem] theorem dk5 (tg n ps o nx) : l7 Tryd.prog tg 88 n ps ⟨o, nx⟩ = if n * 1 ≤ 16777216 then (y7 (fun i => some (i * 1, 1)) (rep [AV.int .u8 0] n) ps).map (fun cs => (.ref tg tg 0 n, ⟨upd o tg (.row ⟨5, 1, tg, false, true, cs⟩), nx⟩)) else none := ai6 (e := 5) (s := 0) (z := [AV.int .u8 0]) (by kernel_rfl) (by kernel_rfl) (by kernel_rfl) rfl tg n ps o nx
@[go_sem] theorem dk6 : l9 Tryd.prog 100 = some 2 := by kernel_rfl
@[go_sem] theorem dk7 : G9 Tryd.prog 100 = some true := by kernel_rfl
@[go_sem] theorem dk8 : F8 Tryd.prog 100 = some [AV.int .i64 0, AV.int .i64 0] := by kernel_rfl
@[go_sem] theorem cK9 (k g off i) : j6 Tryd.prog 100 (.ptr k g off) i = if 0 ≤ i ∧ i < 2 then some (.ptr k g (off + i.toNat * 1)) else none := aM3 (n := 2) (e := 3) (s := 1) (by kernel_rfl) (by kernel_rfl) k g off i
@[go_sem] theorem db5 (xs) : D3 Tryd.prog 100 xs = (y7 (fun i => some (i * 1, 1)) [AV.int .i64 0, AV.int .i64 0] xs).map .agg := aT0 (n := 2) (e := 3) (by kernel_rfl) (by kernel_rfl) (by kernel_rfl) xs
@[go_sem] theorem cL0 (o n cs) : N6 Tryd.prog o 108 (.sl n cs) = some (.int .i64 n) := aF7 (e := 110) (by kernel_rfl) o n cs
@[go_sem] theorem cL1 (n cs i) : j6 Tryd.prog 108 (.sl n cs) i = if 0 ≤ i ∧ i < (n : Int) then some (.fptr (cs.drop (i.toNat * 6))) else none := aa7 (s := 6) (by kernel_rfl) n cs i
@[go_sem] theorem db6 (tg n ps o nx) : l7 Tryd.prog tg 108 n ps ⟨o, nx⟩ = if n * 6 ≤ 16777216 then (y7 (fun i => some (i * 6, 6)) (rep [AV.int .i64 0, AV.int .i64 0, AV.int .i64 0, AV.int .i64 0, AV.int .i64 0, AV.int .i64 0] n) ps).map (fun cs => (.ref tg tg 0 n, ⟨upd o tg (.row ⟨110, 6, tg, false, true, cs⟩), nx⟩)) else none := ai6 (e := 110) (s := 5) (z := [AV.int .i64 0, AV.int .i64 0, AV.int .i64 0, AV.int .i64 0, AV.int .i64 0, AV.int .i64 0]) (by kernel_rfl) (by kernel_rfl) (by kernel_rfl) rfl tg n ps o nx
@[go_sem] theorem db7 (tg x y o nx) : w6 Tryd.prog tg 108 108 x y ⟨o, nx⟩ = (D2 o y).bind fun q => aM4 tg 110 6 48 x q.1 q.2 o nx := as1 (e := 110) (s := 5) (b := 47) (z := [AV.int .i64 0, AV.int .i64 0, AV.int .i64 0, AV.int .i64 0, AV.int .i64 0, AV.int .i64 0]) (by kernel_rfl) (by kernel_rfl) (by kernel_rfl) (by kernel_rfl) rfl (by kernel_rfl) tg x y o nx
@[go_sem] theorem dk9 : l9 Tryd.prog 110 = some 6 := by kernel_rfl
@[go_sem] theorem dl0 : G9 Tryd.prog 110 = some true := by kernel_rfl
@[go_sem] theorem dl1 : F8 Tryd.prog 110 = some [AV.int .i64 0, AV.int .i64 0, AV.int .i64 0, AV.int .i64 0, AV.int .i64 0, AV.int .i64 0] := by kernel_rfl
@[go_sem] theorem cL2 (k g off i) : j6 Tryd.prog 110 (.ptr k g off) i = if 0 ≤ i ∧ i < 6 then some (.ptr k g (off + i.toNat * 1)) else none := aM3 (n := 6) (e := 3) (s := 1) (by kernel_rfl) (by kernel_rfl) k g off i
@[go_sem] theorem db8 (xs) : D3 Tryd.prog 110 xs = (y7 (fun i => some (i * 1, 1)) [AV.int .i64 0, AV.int .i64 0, AV.int .i64 0, AV.int .i64 0, AV.int .i64 0, AV.int .i64 0] xs).map .agg := aT0 (n := 6) (e := 3) (by kernel_rfl) (by kernel_rfl) (by kernel_rfl) xs
@[go_sem] theorem cm3 : D4 Tryd.prog 110 = some [Leaf.int, Leaf.int, Leaf.int, Leaf.int, Leaf.int, Leaf.int] := by kernel_rfl
@[go_sem] theorem dl2 : l9 Tryd.prog 116 = some 1 := by kernel_rfl
@[go_sem] theorem dl3 : G9 Tryd.prog 116 = some false := by kernel_rfl
@[go_sem] theorem dl4 : F8 Tryd.prog 116 = some [AV.nilp] := by kernel_rfl
@[go_sem] theorem cL3 (k g off) : d9 Tryd.prog 118 0 (.ptr k g off) = some (.ptr k g (off + 0)) := x7 (s := 0) (ft := 35) (by kernel_rfl) (by kernel_rfl) k g off
@[go_sem] theorem cL4 (k g off) : d9 Tryd.prog 118 1 (.ptr k g off) = some (.ptr k g (off + 1)) := x7 (s := 0) (ft := 35) (by kernel_rfl) (by kernel_rfl) k g off
@[go_sem] theorem db9 (xs) : D3 Tryd.prog 118 xs = (y7 (fun i => ([(0, 1), (1, 1)] : List (Nat × Nat))[i]?) [AV.nil, AV.nil] xs).map .agg := by kernel_rfl
@[go_sem] theorem dl5 : l9 Tryd.prog 119 = some 1 := by kernel_rfl
@[go_sem] theorem dl6 : G9 Tryd.prog 119 = some false := by kernel_rfl
@[go_sem] theorem cL5 (o k g off n) : N6 Tryd.prog o 119 (.ref k g off n) = some (.int .i64 n) := X5 (e := 118) (by kernel_rfl) o k g off n
@[go_sem] theorem cL6 (k g off n i) : j6 Tryd.prog 119 (.ref k g off n) i = if 0 ≤ i ∧ i < (n : Int) then some (.ptr k g (off + i.toNat * 2)) else none := Q4 (s := 2) (by kernel_rfl) k g off n i
@[go_sem] theorem cL7 (k g off n lo hi) : R7 Tryd.prog 119 (.ref k g off n) lo hi = if 0 ≤ lo.getD 0 ∧ lo.getD 0 ≤ hi.getD n ∧ hi.getD n ≤ n then some (.ref k g (off + (lo.getD 0).toNat * 2) ((hi.getD n).toNat - (lo.getD 0).toNat)) else none := bj9 (s := 1) (by kernel_rfl) k g off n lo hi
@[go_sem] theorem dc0 (tg n ps o nx) : l7 Tryd.prog tg 119 n ps ⟨o, nx⟩ = if n * 2 ≤ 16777216 then (y7 (fun i => some (i * 2, 2)) (rep [AV.nil, AV.nil] n) ps).map (fun cs => (.ref tg tg 0 n, ⟨upd o tg (.row ⟨118, 2, tg, false, true, cs⟩), nx⟩)) else none := ai6 (e := 118) (s := 1) (z := [AV.nil, AV.nil]) (by kernel_rfl) (by kernel_rfl) (by kernel_rfl) rfl tg n ps o nx
@[go_sem] theorem dc1 (tg x y o nx) : w6 Tryd.prog tg 119 119 x y ⟨o, nx⟩ = (D2 o y).bind fun q => aM4 tg 118 2 48 x q.1 q.2 o nx := as1 (e := 118) (s := 1) (b := 47) (z := [AV.nil, AV.nil]) (by kernel_rfl) (by kernel_rfl) (by kernel_rfl) (by kernel_rfl) rfl (by kernel_rfl) tg x y o nx
@[go_sem] theorem cL8 (k g off) : d9 Tryd.prog 121 0 (.ptr k g off) = some (.ptr k g (off + 0)) := x7 (s := 0) (ft := 9) (by kernel_rfl) (by kernel_rfl) k g off
@[go_sem] theorem cL9 (cs) : d9 Tryd.prog 121 0 (.fptr cs) = some (.fptr (cs.drop 0)) := T2 (s := 0) (ft := 9) (by kernel_rfl) (by kernel_rfl) cs
@[go_sem] theorem cM0 (k g off) : d9 Tryd.prog 121 1 (.ptr k g off) = some (.ptr k g (off + 1)) := x7 (s := 0) (ft := 3) (by kernel_rfl) (by kernel_rfl) k g off
@[go_sem] theorem cM1 (cs) : d9 Tryd.prog 121 1 (.fptr cs) = some (.fptr (cs.drop 1)) := T2 (s := 0) (ft := 3) (by kernel_rfl) (by kernel_rfl) cs
@[go_sem] theorem cM2 (k g off) : d9 Tryd.prog 121 2 (.ptr k g off) = some (.ptr k g (off + 2)) := x7 (s := 0) (ft := 119) (by kernel_rfl) (by kernel_rfl) k g off
@[go_sem] theorem dc2 (xs) : D3 Tryd.prog 121 xs = (y7 (fun i => ([(0, 1), (1, 1), (2, 1)] : List (Nat × Nat))[i]?) [AV.str [], AV.int .i64 0, AV.nil] xs).map .agg := by kernel_rfl
@[go_sem] theorem cM3 (k g off) : d9 Tryd.prog 134 0 (.ptr k g off) = some (.ptr k g (off + 0)) := x7 (s := 4) (ft := 82) (by kernel_rfl) (by kernel_rfl) k g off
@[go_sem] theorem dc3 (xs) : D3 Tryd.prog 134 xs = (y7 (fun i => ([(0, 5)] : List (Nat × Nat))[i]?) [AV.int .i64 0, AV.int .i64 0, AV.int .i64 0, AV.nil, AV.nil] xs).map .agg := by kernel_rfl
@[go_sem] theorem dl7 : l9 Tryd.prog 136 = some 2 := by kernel_rfl
@[go_sem] theorem dl8 : G9 Tryd.prog 136 = some true := by kernel_rfl
@[go_sem] theorem dl9 : F8 Tryd.prog 136 = some [AV.int .i64 0, AV.int .i64 0] := by kernel_rfl
@[go_sem] theorem cM4 (k g off) : d9 Tryd.prog 136 0 (.ptr k g off) = some (.ptr k g (off + 0)) := x7 (s := 0) (ft := 3) (by kernel_rfl) (by kernel_rfl) k g off
@[go_sem] theorem cM5 (k g off) : d9 Tryd.prog 136 1 (.ptr k g off) = some (.ptr k g (off + 1)) := x7 (s := 0) (ft := 3) (by kernel_rfl) (by kernel_rfl) k g off
@[go_sem] theorem dc4 (xs) : D3 Tryd.prog 136 xs = (y7 (fun i => ([(0, 1), (1, 1)] : List (Nat × Nat))[i]?) [AV.int .i64 0, AV.int .i64 0] xs).map .agg := by kernel_rfl
@[go_sem] theorem dm0 : l9 Tryd.prog 139 = some 1 := by kernel_rfl
@[go_sem] theorem dm1 : G9 Tryd.prog 139 = some false := by kernel_rfl
@[go_sem] theorem cM6 (k g off n i) : j6 Tryd.prog 139 (.ref k g off n) i = if 0 ≤ i ∧ i < (n : Int) then some (.ptr k g (off + i.toNat * 1)) else none := Q4 (s := 1) (by kernel_rfl) k g off n i
@[go_sem] theorem dc5 (tg l c o nx) : q7 Tryd.prog tg 139 l c ⟨o, nx⟩ = if 0 ≤ l ∧ l ≤ c ∧ c * 24 ≤ X4 ∧ c ≤ X4 then some (.ref tg tg 0 l.toNat, ⟨upd o tg (.row ⟨79, 1, tg, false, true, rep [AV.nil] l.toNat⟩), nx⟩) else none := aF8 (e := 79) (s := 0) (b := 24) (z := [AV.nil]) (by kernel_rfl) (by kernel_rfl) (by kernel_rfl) (by kernel_rfl) rfl tg l c o nx
@[go_sem] theorem dm2 : l9 Tryd.prog 140 = some 1 := by kernel_rfl
@[go_sem] theorem dm3 : G9 Tryd.prog 140 = some false := by kernel_rfl
@[go_sem] theorem dc6 (m s ok o nx) : H9 Tryd.prog 140 (.mp m) (.str s) ok ⟨o, nx⟩ = (az0 (o m)).bind fun es => (J9 (.str s) es).map (lkV ok (AV.int .i64 0)) := cl6 (kt := 9) (et := 3) (z := (AV.int .i64 0)) (k := .str s) (by kernel_rfl) (by kernel_rfl) (by kernel_rfl) m ok o nx
@[go_sem] theorem dc7 (m s v o nx) : m6 Tryd.prog 140 (.mp m) (.str s) v ⟨o, nx⟩ = (az0 (o m)).bind (bA4 m (.str s) v o nx) := cl7 (kt := 9) (et := 3) (k := .str s) (by kernel_rfl) (by kernel_rfl) m v o nx
@[go_sem] theorem dm4 : l9 Tryd.prog 141 = some 1 := by kernel_rfl
@[go_sem] theorem dm5 : G9 Tryd.prog 141 = some false := by kernel_rfl
@[go_sem] theorem cM7 (o) : N6 Tryd.prog o 141 .nil = some (.int .i64 0) := aF6 (e := 22) (by kernel_rfl) o
@[go_sem] theorem cM8 (o k g off n) : N6 Tryd.prog o 141 (.ref k g off n) = some (.int .i64 n) := X5 (e := 22) (by kernel_rfl) o k g off n
@[go_sem] theorem cM9 (n cs i) : j6 Tryd.prog 141 (.sl n cs) i = if 0 ≤ i ∧ i < (n : Int) then some (.fptr (cs.drop (i.toNat * 1))) else none := aa7 (s := 1) (by kernel_rfl) n cs i
@[go_sem] theorem cN0 (k g off n i) : j6 Tryd.prog 141 (.ref k g off n) i = if 0 ≤ i ∧ i < (n : Int) then some (.ptr k g (off + i.toNat * 1)) else none := Q4 (s := 1) (by kernel_rfl) k g off n i
@[go_sem] theorem dc8 (tg l c o nx) : q7 Tryd.prog tg 141 l c ⟨o, nx⟩ = if 0 ≤ l ∧ l ≤ c ∧ c * 24 ≤ X4 ∧ c ≤ X4 then some (.ref tg tg 0 l.toNat, ⟨upd o tg (.row ⟨22, 1, tg, false, true, rep [AV.nil] l.toNat⟩), nx⟩) else none := aF8 (e := 22) (s := 0) (b := 24) (z := [AV.nil]) (by kernel_rfl) (by kernel_rfl) (by kernel_rfl) (by kernel_rfl) rfl tg l c o nx
@[go_sem] theorem dc9 (tg n ps o nx) : l7 Tryd.prog tg 141 n ps ⟨o, nx⟩ = if n * 1 ≤ 16777216 then (y7 (fun i => some (i * 1, 1)) (rep [AV.nil] n) ps).map (fun cs => (.ref tg tg 0 n, ⟨upd o tg (.row ⟨22, 1, tg, false, true, cs⟩), nx⟩)) else none := ai6 (e := 22) (s := 0) (z := [AV.nil]) (by kernel_rfl) (by kernel_rfl) (by kernel_rfl) rfl tg n ps o nx
@[go_sem] theorem dd0 (tg x y o nx) : w6 Tryd.prog tg 141 141 x y ⟨o, nx⟩ = (D2 o y).bind fun q => aM4 tg 22 1 24 x q.1 q.2 o nx := as1 (e := 22) (s := 0) (b := 23) (z := [AV.nil]) (by kernel_rfl) (by kernel_rfl) (by kernel_rfl) (by kernel_rfl) rfl (by kernel_rfl) tg x y o nx
@[go_sem] theorem cN1 (k g off) : d9 Tryd.prog 143 0 (.ptr k g off) = some (.ptr k g (off + 0)) := x7 (s := 4) (ft := 82) (by kernel_rfl) (by kernel_rfl) k g off
@[go_sem] theorem cN2 (cs) : d9 Tryd.prog 143 0 (.fptr cs) = some (.fptr (cs.drop 0)) := T2 (s := 4) (ft := 82) (by kernel_rfl) (by kernel_rfl) cs
@[go_sem] theorem cN3 (k g off) : d9 Tryd.prog 143 1 (.ptr k g off) = some (.ptr k g (off + 5)) := x7 (s := 0) (ft := 139) (by kernel_rfl) (by kernel_rfl) k g off
@[go_sem] theorem cN4 (k g off) : d9 Tryd.prog 143 2 (.ptr k g off) = some (.ptr k g (off + 6)) := x7 (s := 0) (ft := 140) (by kernel_rfl) (by kernel_rfl) k g off
@[go_sem] theorem cN5 (k g off) : d9 Tryd.prog 143 3 (.ptr k g off) = some (.ptr k g (off + 7)) := x7 (s := 0) (ft := 141) (by kernel_rfl) (by kernel_rfl) k g off
@[go_sem] theorem dd1 (xs) : D3 Tryd.prog 143 xs = (y7 (fun i => ([(0, 5), (5, 1), (6, 1), (7, 1)] : List (Nat × Nat))[i]?) [AV.int .i64 0, AV.int .i64 0, AV.int .i64 0, AV.nil, AV.nil, AV.nil, AV.nilmp, AV.nil] xs).map .agg := by kernel_rfl
@[go_sem] theorem dm6 : l9 Tryd.prog 145 = some 3 := by kernel_rfl
@[go_sem] theorem dm7 : G9 Tryd.prog 145 = some true := by kernel_rfl
@[go_sem] theorem dm8 : F8 Tryd.prog 145 = some [AV.int .i64 0, AV.int .i64 0, AV.int .i64 0] := by kernel_rfl
@[go_sem] theorem cN6 (k g off) : d9 Tryd.prog 145 0 (.ptr k g off) = some (.ptr k g (off + 0)) := x7 (s := 0) (ft := 3) (by kernel_rfl) (by kernel_rfl) k g off
@[go_sem] theorem cN7 (k g off) : d9 Tryd.prog 145 1 (.ptr k g off) = some (.ptr k g (off + 1)) := x7 (s := 0) (ft := 3) (by kernel_rfl) (by kernel_rfl) k g off
@[go_sem] theorem cN8 (k g off) : d9 Tryd.prog 145 2 (.ptr k g off) = some (.ptr k g (off + 2)) := x7 (s := 0) (ft := 3) (by kernel_rfl) (by kernel_rfl) k g off
@[go_sem] theorem dd2 (xs) : D3 Tryd.prog 145 xs = (y7 (fun i => ([(0, 1), (1, 1), (2, 1)] : List (Nat × Nat))[i]?) [AV.int .i64 0, AV.int .i64 0, AV.int .i64 0] xs).map .agg := by kernel_rfl
@[go_sem] theorem cN9 (o) : N6 Tryd.prog o 159 .nil = some (.int .i64 0) := aF6 (e := 136) (by kernel_rfl) o
@[go_sem] theorem cO0 (o k g off n) : N6 Tryd.prog o 159 (.ref k g off n) = some (.int .i64 n) := X5 (e := 136) (by kernel_rfl) o k g off n
@[go_sem] theorem cO1 (k g off n i) : j6 Tryd.prog 159 (.ref k g off n) i = if 0 ≤ i ∧ i < (n : Int) then some (.ptr k g (off + i.toNat * 2)) else none := Q4 (s := 2) (by kernel_rfl) k g off n i
@[go_sem] theorem cO2 (k g off n lo hi) : R7 Tryd.prog 159 (.ref k g off n) lo hi = if 0 ≤ lo.getD 0 ∧ lo.getD 0 ≤ hi.getD n ∧ hi.getD n ≤ n then some (.ref k g (off + (lo.getD 0).toNat * 2) ((hi.getD n).toNat - (lo.getD 0).toNat)) else none := bj9 (s := 1) (by kernel_rfl) k g off n lo hi
@[go_sem] theorem dd3 (tg n ps o nx) : l7 Tryd.prog tg 159 n ps ⟨o, nx⟩ = if n * 2 ≤ 16777216 then (y7 (fun i => some (i * 2, 2)) (rep [AV.int .i64 0, AV.int .i64 0] n) ps).map (fun cs => (.ref tg tg 0 n, ⟨upd o tg (.row ⟨136, 2, tg, false, true, cs⟩), nx⟩)) else none := ai6 (e := 136) (s := 1) (z := [AV.int .i64 0, AV.int .i64 0]) (by kernel_rfl) (by kernel_rfl) (by kernel_rfl) rfl tg n ps o nx
@[go_sem] theorem dd4 (tg x y o nx) : w6 Tryd.prog tg 159 159 x y ⟨o, nx⟩ = (D2 o y).bind fun q => aM4 tg 136 2 16 x q.1 q.2 o nx := as1 (e := 136) (s := 1) (b := 15) (z := [AV.int .i64 0, AV.int .i64 0]) (by kernel_rfl) (by kernel_rfl) (by kernel_rfl) (by kernel_rfl) rfl (by kernel_rfl) tg x y o nx
@[go_sem] theorem dm9 : l9 Tryd.prog 165 = some 2 := by kernel_rfl
@[go_sem] theorem dn0 : G9 Tryd.prog 165 = some true := by kernel_rfl
@[go_sem] theorem dn1 : F8 Tryd.prog 165 = some [AV.int .i64 0, AV.nil] := by kernel_rfl
@[go_sem] theorem cO3 (k g off) : d9 Tryd.prog 165 0 (.ptr k g off) = some (.ptr k g (off + 0)) := x7 (s := 0) (ft := 3) (by kernel_rfl) (by kernel_rfl) k g off
@[go_sem] theorem cO4 (k g off) : d9 Tryd.prog 165 1 (.ptr k g off) = some (.ptr k g (off + 1)) := x7 (s := 0) (ft := 141) (by kernel_rfl) (by kernel_rfl) k g off
@[go_sem] theorem dd5 (xs) : D3 Tryd.prog 165 xs = (y7 (fun i => ([(0, 1), (1, 1)] : List (Nat × Nat))[i]?) [AV.int .i64 0, AV.nil] xs).map .agg := by kernel_rfl
@[go_sem] theorem dt0 (tg k n o nx) : f6 Tryd.prog tg 2 3 (.int k n) ⟨o, nx⟩ = some (.int .i64 (IntKind.wrap .i64 n), ⟨o, nx⟩) := u0 (td := .int .i64) (by kernel_rfl) (by kernel_rfl) tg k n o nx
@[go_sem] theorem dt1 (tg k n o nx) : f6 Tryd.prog tg 2 5 (.int k n) ⟨o, nx⟩ = some (.int .u8 (IntKind.wrap .u8 n), ⟨o, nx⟩) := u0 (td := .int .i64) (by kernel_rfl) (by kernel_rfl) tg k n o nx
@[go_sem] theorem dn2 (tg k n o nx) : f6 Tryd.prog tg 2 39 (.int k n) ⟨o, nx⟩ = some (.int .i64 (IntKind.wrap .i64 n), ⟨o, nx⟩) := u0 (td := .int .i64) (by kernel_rfl) (by kernel_rfl) tg k n o nx
@[go_sem] theorem dn3 (tg k n o nx) : f6 Tryd.prog tg 2 63 (.int k n) ⟨o, nx⟩ = some (.int .u64 (IntKind.wrap .u64 n), ⟨o, nx⟩) := u0 (td := .int .i64) (by kernel_rfl) (by kernel_rfl) tg k n o nx
@[go_sem] theorem dd6 (tg k n o nx) : f6 Tryd.prog tg 2 169 (.int k n) ⟨o, nx⟩ = some (.int .u64 (IntKind.wrap .u64 n), ⟨o, nx⟩) := u0 (td := .int .i64) (by kernel_rfl) (by kernel_rfl) tg k n o nx
@[go_sem] theorem dd7 (tg k n o nx) : f6 Tryd.prog tg 2 176 (.int k n) ⟨o, nx⟩ = some (.int .u32 (IntKind.wrap .u32 n), ⟨o, nx⟩) := u0 (td := .int .i64) (by kernel_rfl) (by kernel_rfl) tg k n o nx
@[go_sem] theorem dt2 (tg k n o nx) : f6 Tryd.prog tg 3 2 (.int k n) ⟨o, nx⟩ = some (.int .i64 (IntKind.wrap .i64 n), ⟨o, nx⟩) := u0 (td := .int .i64) (by kernel_rfl) (by kernel_rfl) tg k n o nx
@[go_sem] theorem dt3 (tg k n o nx) : f6 Tryd.prog tg 3 5 (.int k n) ⟨o, nx⟩ = some (.int .u8 (IntKind.wrap .u8 n), ⟨o, nx⟩) := u0 (td := .int .i64) (by kernel_rfl) (by kernel_rfl) tg k n o nx
@[go_sem] theorem dn4 (tg k n o nx) : f6 Tryd.prog tg 3 39 (.int k n) ⟨o, nx⟩ = some (.int .i64 (IntKind.wrap .i64 n), ⟨o, nx⟩) := u0 (td := .int .i64) (by kernel_rfl) (by kernel_rfl) tg k n o nx
@[go_sem] theorem dn5 (tg k n o nx) : f6 Tryd.prog tg 3 63 (.int k n) ⟨o, nx⟩ = some (.int .u64 (IntKind.wrap .u64 n), ⟨o, nx⟩) := u0 (td := .int .i64) (by kernel_rfl) (by kernel_rfl) tg k n o nx
@[go_sem] theorem dd8 (tg k n o nx) : f6 Tryd.prog tg 3 169 (.int k n) ⟨o, nx⟩ = some (.int .u64 (IntKind.wrap .u64 n), ⟨o, nx⟩) := u0 (td := .int .i64) (by kernel_rfl) (by kernel_rfl) tg k n o nx
@[go_sem] theorem dd9 (tg k n o nx) : f6 Tryd.prog tg 3 176 (.int k n) ⟨o, nx⟩ = some (.int .u32 (IntKind.wrap .u32 n), ⟨o, nx⟩) := u0 (td := .int .i64) (by kernel_rfl) (by kernel_rfl) tg k n o nx
@[go_sem] theorem dt4 (tg k n o nx) : f6 Tryd.prog tg 5 2 (.int k n) ⟨o, nx⟩ = some (.int .i64 (IntKind.wrap .i64 n), ⟨o, nx⟩) := u0 (td := .int .u8) (by kernel_rfl) (by kernel_rfl) tg k n o nx
@[go_sem] theorem dt5 (tg k n o nx) : f6 Tryd.prog tg 5 3 (.int k n) ⟨o, nx⟩ = some (.int .i64 (IntKind.wrap .i64 n), ⟨o, nx⟩) := u0 (td := .int .u8) (by kernel_rfl) (by kernel_rfl) tg k n o nx
@[go_sem] theorem dn6 (tg k n o nx) : f6 Tryd.prog tg 5 39 (.int k n) ⟨o, nx⟩ = some (.int .i64 (IntKind.wrap .i64 n), ⟨o, nx⟩) := u0 (td := .int .u8) (by kernel_rfl) (by kernel_rfl) tg k n o nx
@[go_sem] theorem dn7 (tg k n o nx) : f6 Tryd.prog tg 5 63 (.int k n) ⟨o, nx⟩ = some (.int .u64 (IntKind.wrap .u64 n), ⟨o, nx⟩) := u0 (td := .int .u8) (by kernel_rfl) (by kernel_rfl) tg k n o nx
@[go_sem] theorem de0 (tg k n o nx) : f6 Tryd.prog tg 5 169 (.int k n) ⟨o, nx⟩ = some (.int .u64 (IntKind.wrap .u64 n), ⟨o, nx⟩) := u0 (td := .int .u8) (by kernel_rfl) (by kernel_rfl) tg k n o nx
@[go_sem] theorem de1 (tg k n o nx) : f6 Tryd.prog tg 5 176 (.int k n) ⟨o, nx⟩ = some (.int .u32 (IntKind.wrap .u32 n), ⟨o, nx⟩) := u0 (td := .int .u8) (by kernel_rfl) (by kernel_rfl) tg k n o nx
@[go_sem] theorem dn8 (tg k n o nx) : f6 Tryd.prog tg 39 2 (.int k n) ⟨o, nx⟩ = some (.int .i64 (IntKind.wrap .i64 n), ⟨o, nx⟩) := u0 (td := .int .i64) (by kernel_rfl) (by kernel_rfl) tg k n o nx
@[go_sem] theorem dn9 (tg k n o nx) : f6 Tryd.prog tg 39 3 (.int k n) ⟨o, nx⟩ = some (.int .i64 (IntKind.wrap .i64 n), ⟨o, nx⟩) := u0 (td := .int .i64) (by kernel_rfl) (by kernel_rfl) tg k n o nx
@[go_sem] theorem do0 (tg k n o nx) : f6 Tryd.prog tg 39 5 (.int k n) ⟨o, nx⟩ = some (.int .u8 (IntKind.wrap .u8 n), ⟨o, nx⟩) := u0 (td := .int .i64) (by kernel_rfl) (by kernel_rfl) tg k n o nx
@[go_sem] theorem de2 (tg k n o nx) : f6 Tryd.prog tg 39 63 (.int k n) ⟨o, nx⟩ = some (.int .u64 (IntKind.wrap .u64 n), ⟨o, nx⟩) := u0 (td := .int .i64) (by kernel_rfl) (by kernel_rfl) tg k n o nx
@[go_sem] theorem cO5 (tg k n o nx) : f6 Tryd.prog tg 39 169 (.int k n) ⟨o, nx⟩ = some (.int .u64 (IntKind.wrap .u64 n), ⟨o, nx⟩) := u0 (td := .int .i64) (by kernel_rfl) (by kernel_rfl) tg k n o nx
@[go_sem] theorem cO6 (tg k n o nx) : f6 Tryd.prog tg 39 176 (.int k n) ⟨o, nx⟩ = some (.int .u32 (IntKind.wrap .u32 n), ⟨o, nx⟩) := u0 (td := .int .i64) (by kernel_rfl) (by kernel_rfl) tg k n o nx
@[go_sem] theorem do1 (tg k n o nx) : f6 Tryd.prog tg 63 2 (.int k n) ⟨o, nx⟩ = some (.int .i64 (IntKind.wrap .i64 n), ⟨o, nx⟩) := u0 (td := .int .u64) (by kernel_rfl) (by kernel_rfl) tg k n o nx
@[go_sem] theorem do2 (tg k n o nx) : f6 Tryd.prog tg 63 3 (.int k n) ⟨o, nx⟩ = some (.int .i64 (IntKind.wrap .i64 n), ⟨o, nx⟩) := u0 (td := .int .u64) (by kernel_rfl) (by kernel_rfl) tg k n o nx
@[go_sem] theorem do3 (tg k n o nx) : f6 Tryd.prog tg 63 5 (.int k n) ⟨o, nx⟩ = some (.int .u8 (IntKind.wrap .u8 n), ⟨o, nx⟩) := u0 (td := .int .u64) (by kernel_rfl) (by kernel_rfl) tg k n o nx
@[go_sem] theorem de3 (tg k n o nx) : f6 Tryd.prog tg 63 39 (.int k n) ⟨o, nx⟩ = some (.int .i64 (IntKind.wrap .i64 n), ⟨o, nx⟩) := u0 (td := .int .u64) (by kernel_rfl) (by kernel_rfl) tg k n o nx
@[go_sem] theorem cO7 (tg k n o nx) : f6 Tryd.prog tg 63 169 (.int k n) ⟨o, nx⟩ = some (.int .u64 (IntKind.wrap .u64 n), ⟨o, nx⟩) := u0 (td := .int .u64) (by kernel_rfl) (by kernel_rfl) tg k n o nx
@[go_sem] theorem cO8 (tg k n o nx) : f6 Tryd.prog tg 63 176 (.int k n) ⟨o, nx⟩ = some (.int .u32 (IntKind.wrap .u32 n), ⟨o, nx⟩) := u0 (td := .int .u64) (by kernel_rfl) (by kernel_rfl) tg k n o nx
@[go_sem] theorem de4 (tg k n o nx) : f6 Tryd.prog tg 169 2 (.int k n) ⟨o, nx⟩ = some (.int .i64 (IntKind.wrap .i64 n), ⟨o, nx⟩) := u0 (td := .int .u64) (by kernel_rfl) (by kernel_rfl) tg k n o nx
@[go_sem] theorem de5 (tg k n o nx) : f6 Tryd.prog tg 169 3 (.int k n) ⟨o, nx⟩ = some (.int .i64 (IntKind.wrap .i64 n), ⟨o, nx⟩) := u0 (td := .int .u64) (by kernel_rfl) (by kernel_rfl) tg k n o nx
@[go_sem] theorem de6 (tg k n o nx) : f6 Tryd.prog tg 169 5 (.int k n) ⟨o, nx⟩ = some (.int .u8 (IntKind.wrap .u8 n), ⟨o, nx⟩) := u0 (td := .int .u64) (by kernel_rfl) (by kernel_rfl) tg k n o nx
@[go_sem] theorem cO9 (tg k n o nx) : f6 Tryd.prog tg 169 39 (.int k n) ⟨o, nx⟩ = some (.int .i64 (IntKind.wrap .i64 n), ⟨o, nx⟩) := u0 (td := .int .u64) (by kernel_rfl) (by kernel_rfl) tg k n o nx
@[go_sem] theorem cP0 (tg k n o nx) : f6 Tryd.prog tg 169 63 (.int k n) ⟨o, nx⟩ = some (.int .u64 (IntKind.wrap .u64 n), ⟨o, nx⟩) := u0 (td := .int .u64) (by kernel_rfl) (by kernel_rfl) tg k n o nx
@[go_sem] theorem cE2 (tg k n o nx) : f6 Tryd.prog tg 169 176 (.int k n) ⟨o, nx⟩ = some (.int .u32 (IntKind.wrap .u32 n), ⟨o, nx⟩) := u0 (td := .int .u64) (by kernel_rfl) (by kernel_rfl) tg k n o nx
@[go_sem] theorem de7 (tg k n o nx) : f6 Tryd.prog tg 176 2 (.int k n) ⟨o, nx⟩ = some (.int .i64 (IntKind.wrap .i64 n), ⟨o, nx⟩) := u0 (td := .int .u32) (by kernel_rfl) (by kernel_rfl) tg k n o nx
@[go_sem] theorem de8 (tg k n o nx) : f6 Tryd.prog tg 176 3 (.int k n) ⟨o, nx⟩ = some (.int .i64 (IntKind.wrap .i64 n), ⟨o, nx⟩) := u0 (td := .int .u32) (by kernel_rfl) (by kernel_rfl) tg k n o nx
@[go_sem] theorem de9 (tg k n o nx) : f6 Tryd.prog tg 176 5 (.int k n) ⟨o, nx⟩ = some (.int .u8 (IntKind.wrap .u8 n), ⟨o, nx⟩) := u0 (td := .int .u32) (by kernel_rfl) (by kernel_rfl) tg k n o nx
@[go_sem] theorem cP1 (tg k n o nx) : f6 Tryd.prog tg 176 39 (.int k n) ⟨o, nx⟩ = some (.int .i64 (IntKind.wrap .i64 n), ⟨o, nx⟩) := u0 (td := .int .u32) (by kernel_rfl) (by kernel_rfl) tg k n o nx
@[go_sem] theorem cP2 (tg k n o nx) : f6 Tryd.prog tg 176 63 (.int k n) ⟨o, nx⟩ = some (.int .u64 (IntKind.wrap .u64 n), ⟨o, nx⟩) := u0 (td := .int .u32) (by kernel_rfl) (by kernel_rfl) tg k n o nx
@[go_sem] theorem cE3 (tg k n o nx) : f6 Tryd.prog tg 176 169 (.int k n) ⟨o, nx⟩ = some (.int .u64 (IntKind.wrap .u64 n), ⟨o, nx⟩) := u0 (td := .int .u32) (by kernel_rfl) (by kernel_rfl) tg k n o nx
def md0 (f : FuncId) : Mode := if f ∈ [22, 43, 64, 56, 28, 35, 38, 21, 31, 32, 17, 14, 25, 95, 99, 101, 102, 103, 81, 30, 19, 27, 20, 85, 51, 52, 61, 71, 72, 87, 88, 86, 98, 48, 49, 36, 60, 62, 53] then .ext true else if f ∈ [23, 44, 65, 29, 46, 79, 96, 97, 54, 55, 82, 83, 84, 15, 45, 47, 24, 16, 33, 18, 26, 42, 63, 40, 41, 69, 75, 50, 34, 59, 37] then .ext false else if f ∈ [] then .raw true else .raw false
@[go_sem] theorem M22 : md0 22 = .ext true := rfl
@[go_sem] theorem M23 : md0 23 = .ext false := rfl
@[go_sem] theorem M43 : md0 43 = .ext true := rfl
@[go_sem] theorem M64 : md0 64 = .ext true := rfl
@[go_sem] theorem M44 : md0 44 = .ext false := rfl
@[go_sem] theorem M65 : md0 65 = .ext false := rfl
@[go_sem] theorem M29 : md0 29 = .ext false := rfl
@[go_sem] theorem M56 : md0 56 = .ext true := rfl
@[go_sem] theorem M46 : md0 46 = .ext false := rfl
@[go_sem] theorem M79 : md0 79 = .ext false := rfl
@[go_sem] theorem M96 : md0 96 = .ext false := rfl
@[go_sem] theorem M97 : md0 97 = .ext false := rfl
@[go_sem] theorem M28 : md0 28 = .ext true := rfl
@[go_sem] theorem M54 : md0 54 = .ext false := rfl
@[go_sem] theorem M55 : md0 55 = .ext false := rfl
@[go_sem] theorem M82 : md0 82 = .ext false := rfl
@[go_sem] theorem M83 : md0 83 = .ext false := rfl
@[go_sem] theorem M84 : md0 84 = .ext false := rfl
@[go_sem] theorem M35 : md0 35 = .ext true := rfl
@[go_sem] theorem M38 : md0 38 = .ext true := rfl
@[go_sem] theorem M15 : md0 15 = .ext false := rfl
@[go_sem] theorem M21 : md0 21 = .ext true := rfl
@[go_sem] theorem M31 : md0 31 = .ext true := rfl
@[go_sem] theorem M32 : md0 32 = .ext true := rfl
@[go_sem] theorem M17 : md0 17 = .ext true := rfl
@[go_sem] theorem M76 : md0 76 = .raw false := rfl
@[go_sem] theorem M90 : md0 90 = .raw false := rfl
@[go_sem] theorem M91 : md0 91 = .raw false := rfl
@[go_sem] theorem M92 : md0 92 = .raw false := rfl
@[go_sem] theorem M77 : md0 77 = .raw false := rfl
@[go_sem] theorem M93 : md0 93 = .raw false := rfl
@[go_sem] theorem M94 : md0 94 = .raw false := rfl
@[go_sem] theorem M14 : md0 14 = .ext true := rfl
@[go_sem] theorem M45 : md0 45 = .ext false := rfl
@[go_sem] theorem M25 : md0 25 = .ext true := rfl
@[go_sem] theorem M47 : md0 47 = .ext false := rfl
@[go_sem] theorem M95 : md0 95 = .ext true := rfl
@[go_sem] theorem M99 : md0 99 = .ext true := rfl
@[go_sem] theorem dt6 : md0 101 = .ext true := rfl
@[go_sem] theorem dt7 : md0 102 = .ext true := rfl
@[go_sem] theorem dt8 : md0 103 = .ext true := rfl
@[go_sem] theorem M78 : md0 78 = .raw false := rfl
@[go_sem] theorem M80 : md0 80 = .raw false := rfl
@[go_sem] theorem M81 : md0 81 = .ext true := rfl
@[go_sem] theorem M30 : md0 30 = .ext true := rfl
@[go_sem] theorem M24 : md0 24 = .ext false := rfl
@[go_sem] theorem M16 : md0 16 = .ext false := rfl
@[go_sem] theorem M19 : md0 19 = .ext true := rfl
@[go_sem] theorem M27 : md0 27 = .ext true := rfl
@[go_sem] theorem M33 : md0 33 = .ext false := rfl
@[go_sem] theorem M18 : md0 18 = .ext false := rfl
@[go_sem] theorem M20 : md0 20 = .ext true := rfl
@[go_sem] theorem M26 : md0 26 = .ext false := rfl
@[go_sem] theorem M42 : md0 42 = .ext false := rfl
@[go_sem] theorem M63 : md0 63 = .ext false := rfl
@[go_sem] theorem M85 : md0 85 = .ext true := rfl
@[go_sem] theorem M40 : md0 40 = .ext false := rfl
@[go_sem] theorem M41 : md0 41 = .ext false := rfl
@[go_sem] theorem M51 : md0 51 = .ext true := rfl
@[go_sem] theorem M52 : md0 52 = .ext true := rfl
@[go_sem] theorem M61 : md0 61 = .ext true := rfl
@[go_sem] theorem M69 : md0 69 = .ext false := rfl
@[go_sem] theorem M71 : md0 71 = .ext true := rfl
@[go_sem] theorem M75 : md0 75 = .ext false := rfl
@[go_sem] theorem M72 : md0 72 = .ext true := rfl
@[go_sem] theorem M87 : md0 87 = .ext true := rfl
@[go_sem] theorem M88 : md0 88 = .ext true := rfl
@[go_sem] theorem M86 : md0 86 = .ext true := rfl
@[go_sem] theorem M67 : md0 67 = .raw false := rfl
@[go_sem] theorem M68 : md0 68 = .raw false := rfl
@[go_sem] theorem M74 : md0 74 = .raw false := rfl
@[go_sem] theorem M89 : md0 89 = .raw false := rfl
@[go_sem] theorem M70 : md0 70 = .raw false := rfl
@[go_sem] theorem M73 : md0 73 = .raw false := rfl
@[go_sem] theorem M66 : md0 66 = .raw false := rfl
@[go_sem] theorem M98 : md0 98 = .ext true := rfl
@[go_sem] theorem M48 : md0 48 = .ext true := rfl
@[go_sem] theorem M49 : md0 49 = .ext true := rfl
@[go_sem] theorem M50 : md0 50 = .ext false := rfl
@[go_sem] theorem M34 : md0 34 = .ext false := rfl
@[go_sem] theorem M59 : md0 59 = .ext false := rfl
@[go_sem] theorem M36 : md0 36 = .ext true := rfl
@[go_sem] theorem M37 : md0 37 = .ext false := rfl
@[go_sem] theorem M39 : md0 39 = .raw false := rfl
@[go_sem] theorem M60 : md0 60 = .ext true := rfl
@[go_sem] theorem M62 : md0 62 = .ext true := rfl
@[go_sem] theorem M53 : md0 53 = .ext true := rfl
@[go_sem] theorem M57 : md0 57 = .raw false := rfl
@[go_sem] theorem M58 : md0 58 = .raw false := rfl
end Go.Proofs.YtpmjpogcaglphaaDoor.A
