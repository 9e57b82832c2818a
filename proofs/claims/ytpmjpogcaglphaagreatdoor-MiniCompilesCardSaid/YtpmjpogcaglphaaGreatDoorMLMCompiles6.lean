/- Facts on the types' table, on how functions are called. -/
import Derived.Test.YtpmjpogcaglphaaGreatDoorMLMCompiles5
import Derived.Test.YtpmjpogcaglphaaGreatDoorMLMCompiles3
set_option linter.unusedVariables false
set_option linter.unusedSimpArgs false
set_option linter.unnecessarySimpa false
namespace Go.Proofs.YtpmjpogcaglphaaGreatDoor.A
open Go
noncomputable def EX (md : FuncId→Mode) (X : FuncId→List AV→Option AV) : Env := ⟨Tryz.prog,md,X⟩
@[go_sem] theorem ed4 (md X) : (EX md X).P = Tryz.prog := rfl
@[go_sem] theorem ed5 (md X g) : (EX md X).mode g = md g := rfl
@[go_sem] theorem ed6 (md X g as_) : (EX md X).ext g as_ = X g as_ := rfl
@[go_sem] theorem T3s : u4 Tryz.prog 3 = some 1 := by kernel_rfl
@[go_sem] theorem T3a : O7 Tryz.prog 3 = some false := by kernel_rfl
@[go_sem] theorem T4s : u4 Tryz.prog 4 = some 1 := by kernel_rfl
@[go_sem] theorem T4a : O7 Tryz.prog 4 = some false := by kernel_rfl
@[go_sem] theorem ed7 (x y) : Q4 Tryz.prog .neq 4 (.bool x) (.bool y) = some (.bool (!(x == y))) := bZ3 (by kernel_rfl) x y
@[go_sem] theorem T5s : u4 Tryz.prog 5 = some 1 := by kernel_rfl
@[go_sem] theorem T5a : O7 Tryz.prog 5 = some false := by kernel_rfl
@[go_sem] theorem T9s : u4 Tryz.prog 9 = some 1 := by kernel_rfl
@[go_sem] theorem T9a : O7 Tryz.prog 9 = some false := by kernel_rfl
@[go_sem] theorem ed8 (x i) : Y4 Tryz.prog 9 (.str x) i = if 0 ≤ i then (x[i.toNat]?).map fun b => .int .u8 b.toNat else none := cv7 (by kernel_rfl) x i
@[go_sem] theorem ed9 (o x) : R9 Tryz.prog o 9 (.str x) = some (.int .i64 x.length) := cR8 (by kernel_rfl) o x
@[go_sem] theorem ee0 : u4 Tryz.prog 22 = some 1 := by kernel_rfl
@[go_sem] theorem ee1 : O7 Tryz.prog 22 = some false := by kernel_rfl
@[go_sem] theorem dI4 (o n cs) : R9 Tryz.prog o 22 (.sl n cs) = some (.int .i64 n) := aG5 (e := 53) (by kernel_rfl) o n cs
@[go_sem] theorem dI5 (n cs i) : n9 Tryz.prog 22 (.sl n cs) i = if 0 ≤ i ∧ i < (n : Int) then some (.fptr (cs.drop (i.toNat * 3))) else none := ad0 (s := 3) (by kernel_rfl) n cs i
@[go_sem] theorem ee2 : u4 Tryz.prog 23 = some 1 := by kernel_rfl
@[go_sem] theorem ee3 : O7 Tryz.prog 23 = some false := by kernel_rfl
@[go_sem] theorem dI6 (o) : R9 Tryz.prog o 23 .nil = some (.int .i64 0) := aJ6 (e := 3) (by kernel_rfl) o
@[go_sem] theorem dI7 (o n cs) : R9 Tryz.prog o 23 (.sl n cs) = some (.int .i64 n) := aG5 (e := 3) (by kernel_rfl) o n cs
@[go_sem] theorem dI8 (o k g off n) : R9 Tryz.prog o 23 (.ref k g off n) = some (.int .i64 n) := ad1 (e := 3) (by kernel_rfl) o k g off n
@[go_sem] theorem dI9 (n cs i) : n9 Tryz.prog 23 (.sl n cs) i = if 0 ≤ i ∧ i < (n : Int) then some (.fptr (cs.drop (i.toNat * 1))) else none := ad0 (s := 1) (by kernel_rfl) n cs i
@[go_sem] theorem dJ0 (k g off n i) : n9 Tryz.prog 23 (.ref k g off n) i = if 0 ≤ i ∧ i < (n : Int) then some (.ptr k g (off + i.toNat * 1)) else none := Q7 (s := 1) (by kernel_rfl) k g off n i
@[go_sem] theorem dJ1 (k g off n lo hi) : ab9 Tryz.prog 23 (.ref k g off n) lo hi = if 0 ≤ lo.getD 0 ∧ lo.getD 0 ≤ hi.getD n ∧ hi.getD n ≤ n then some (.ref k g (off + (lo.getD 0).toNat * 1) ((hi.getD n).toNat - (lo.getD 0).toNat)) else none := bF0 (s := 0) (by kernel_rfl) k g off n lo hi
@[go_sem] theorem dV2 (k g off n x o nx) : aa0 Tryz.prog 23 (.ref k g off n) x ⟨o, nx⟩ = (I5 o x).bind fun q => (V1 (o k) g).bind (aV0 k off n 1 q.1 q.2 o nx) := aV1 (by kernel_rfl) k g off n x o nx
@[go_sem] theorem dV3 (tg l c o nx) : y7 Tryz.prog tg 23 l c ⟨o, nx⟩ = if 0 ≤ l ∧ l ≤ c ∧ c * 8 ≤ ab7 ∧ c ≤ ab7 then some (.ref tg tg 0 l.toNat, ⟨upd o tg (.row ⟨3, 1, tg, false, true, rep [AV.int .i64 0] l.toNat⟩), nx⟩) else none := aN5 (e := 3) (s := 0) (b := 8) (z := [AV.int .i64 0]) (by kernel_rfl) (by kernel_rfl) (by kernel_rfl) (by kernel_rfl) rfl tg l c o nx
@[go_sem] theorem dV4 (tg n ps o nx) : s9 Tryz.prog tg 23 n ps ⟨o, nx⟩ = if n * 1 ≤ 16777216 then (C6 (fun i => some (i * 1, 1)) (rep [AV.int .i64 0] n) ps).map (fun cs => (.ref tg tg 0 n, ⟨upd o tg (.row ⟨3, 1, tg, false, true, cs⟩), nx⟩)) else none := al4 (e := 3) (s := 0) (z := [AV.int .i64 0]) (by kernel_rfl) (by kernel_rfl) (by kernel_rfl) rfl tg n ps o nx
@[go_sem] theorem dV5 (tg x y o nx) : B9 Tryz.prog tg 23 23 x y ⟨o, nx⟩ = (I5 o y).bind fun q => aU9 tg 3 1 8 x q.1 q.2 o nx := av3 (e := 3) (s := 0) (b := 7) (z := [AV.int .i64 0]) (by kernel_rfl) (by kernel_rfl) (by kernel_rfl) (by kernel_rfl) rfl (by kernel_rfl) tg x y o nx
@[go_sem] theorem ee4 : u4 Tryz.prog 26 = some 1 := by kernel_rfl
@[go_sem] theorem ee5 : O7 Tryz.prog 26 = some false := by kernel_rfl
@[go_sem] theorem dJ2 (o) : R9 Tryz.prog o 26 .nil = some (.int .i64 0) := aJ6 (e := 28) (by kernel_rfl) o
@[go_sem] theorem dJ3 (o n cs) : R9 Tryz.prog o 26 (.sl n cs) = some (.int .i64 n) := aG5 (e := 28) (by kernel_rfl) o n cs
@[go_sem] theorem dJ4 (o k g off n) : R9 Tryz.prog o 26 (.ref k g off n) = some (.int .i64 n) := ad1 (e := 28) (by kernel_rfl) o k g off n
@[go_sem] theorem dJ5 (n cs i) : n9 Tryz.prog 26 (.sl n cs) i = if 0 ≤ i ∧ i < (n : Int) then some (.fptr (cs.drop (i.toNat * 5))) else none := ad0 (s := 5) (by kernel_rfl) n cs i
@[go_sem] theorem dJ6 (k g off n i) : n9 Tryz.prog 26 (.ref k g off n) i = if 0 ≤ i ∧ i < (n : Int) then some (.ptr k g (off + i.toNat * 5)) else none := Q7 (s := 5) (by kernel_rfl) k g off n i
@[go_sem] theorem dV6 (tg l c o nx) : y7 Tryz.prog tg 26 l c ⟨o, nx⟩ = if 0 ≤ l ∧ l ≤ c ∧ c * 56 ≤ ab7 ∧ c ≤ ab7 then some (.ref tg tg 0 l.toNat, ⟨upd o tg (.row ⟨28, 5, tg, false, true, rep [AV.int .i64 0, AV.int .i64 0, AV.int .i64 0, AV.int .i64 0, AV.nil] l.toNat⟩), nx⟩) else none := aN5 (e := 28) (s := 4) (b := 56) (z := [AV.int .i64 0, AV.int .i64 0, AV.int .i64 0, AV.int .i64 0, AV.nil]) (by kernel_rfl) (by kernel_rfl) (by kernel_rfl) (by kernel_rfl) rfl tg l c o nx
@[go_sem] theorem dV7 (tg n ps o nx) : s9 Tryz.prog tg 26 n ps ⟨o, nx⟩ = if n * 5 ≤ 16777216 then (C6 (fun i => some (i * 5, 5)) (rep [AV.int .i64 0, AV.int .i64 0, AV.int .i64 0, AV.int .i64 0, AV.nil] n) ps).map (fun cs => (.ref tg tg 0 n, ⟨upd o tg (.row ⟨28, 5, tg, false, true, cs⟩), nx⟩)) else none := al4 (e := 28) (s := 4) (z := [AV.int .i64 0, AV.int .i64 0, AV.int .i64 0, AV.int .i64 0, AV.nil]) (by kernel_rfl) (by kernel_rfl) (by kernel_rfl) rfl tg n ps o nx
@[go_sem] theorem dV8 (tg x y o nx) : B9 Tryz.prog tg 26 26 x y ⟨o, nx⟩ = (I5 o y).bind fun q => aU9 tg 28 5 56 x q.1 q.2 o nx := av3 (e := 28) (s := 4) (b := 55) (z := [AV.int .i64 0, AV.int .i64 0, AV.int .i64 0, AV.int .i64 0, AV.nil]) (by kernel_rfl) (by kernel_rfl) (by kernel_rfl) (by kernel_rfl) rfl (by kernel_rfl) tg x y o nx
@[go_sem] theorem ee6 : u4 Tryz.prog 28 = some 5 := by kernel_rfl
@[go_sem] theorem ee7 : O7 Tryz.prog 28 = some true := by kernel_rfl
@[go_sem] theorem ee8 : N3 Tryz.prog 28 = some [AV.int .i64 0, AV.int .i64 0, AV.int .i64 0, AV.int .i64 0, AV.nil] := by kernel_rfl
@[go_sem] theorem dJ7 (k g off) : l7 Tryz.prog 28 0 (.ptr k g off) = some (.ptr k g (off + 0)) := B3 (s := 0) (ft := 3) (by kernel_rfl) (by kernel_rfl) k g off
@[go_sem] theorem dJ8 (cs) : aU8 Tryz.prog 28 0 (.agg cs) = W8 Tryz.prog 3 (cs.drop 0) := cR7 (by kernel_rfl) cs
@[go_sem] theorem dJ9 (k g off) : l7 Tryz.prog 28 1 (.ptr k g off) = some (.ptr k g (off + 1)) := B3 (s := 0) (ft := 3) (by kernel_rfl) (by kernel_rfl) k g off
@[go_sem] theorem dK0 (k g off) : l7 Tryz.prog 28 2 (.ptr k g off) = some (.ptr k g (off + 2)) := B3 (s := 0) (ft := 3) (by kernel_rfl) (by kernel_rfl) k g off
@[go_sem] theorem dK1 (k g off) : l7 Tryz.prog 28 3 (.ptr k g off) = some (.ptr k g (off + 3)) := B3 (s := 0) (ft := 3) (by kernel_rfl) (by kernel_rfl) k g off
@[go_sem] theorem dK2 (k g off) : l7 Tryz.prog 28 4 (.ptr k g off) = some (.ptr k g (off + 4)) := B3 (s := 0) (ft := 26) (by kernel_rfl) (by kernel_rfl) k g off
@[go_sem] theorem dV9 (xs) : H4 Tryz.prog 28 xs = (C6 (fun i => ([(0, 1), (1, 1), (2, 1), (3, 1), (4, 1)] : List (Nat × Nat))[i]?) [AV.int .i64 0, AV.int .i64 0, AV.int .i64 0, AV.int .i64 0, AV.nil] xs).map .agg := by kernel_rfl
@[go_sem] theorem dK3 (o k g off n) : R9 Tryz.prog o 31 (.ref k g off n) = some (.int .i64 n) := ad1 (e := 5) (by kernel_rfl) o k g off n
@[go_sem] theorem dK4 (k g off n i) : n9 Tryz.prog 31 (.ref k g off n) i = if 0 ≤ i ∧ i < (n : Int) then some (.ptr k g (off + i.toNat * 1)) else none := Q7 (s := 1) (by kernel_rfl) k g off n i
@[go_sem] theorem dW0 (tg n ps o nx) : s9 Tryz.prog tg 31 n ps ⟨o, nx⟩ = if n * 1 ≤ 16777216 then (C6 (fun i => some (i * 1, 1)) (rep [AV.int .u8 0] n) ps).map (fun cs => (.ref tg tg 0 n, ⟨upd o tg (.row ⟨5, 1, tg, false, true, cs⟩), nx⟩)) else none := al4 (e := 5) (s := 0) (z := [AV.int .u8 0]) (by kernel_rfl) (by kernel_rfl) (by kernel_rfl) rfl tg n ps o nx
@[go_sem] theorem dK5 (k g off n i) : n9 Tryz.prog 33 (.ref k g off n) i = if 0 ≤ i ∧ i < (n : Int) then some (.ptr k g (off + i.toNat * 1)) else none := Q7 (s := 1) (by kernel_rfl) k g off n i
@[go_sem] theorem cU9 (tg n ps o nx) : s9 Tryz.prog tg 33 n ps ⟨o, nx⟩ = if n * 1 ≤ 16777216 then (C6 (fun i => some (i * 1, 1)) (rep [AV.str []] n) ps).map (fun cs => (.ref tg tg 0 n, ⟨upd o tg (.row ⟨9, 1, tg, false, true, cs⟩), nx⟩)) else none := al4 (e := 9) (s := 0) (z := [AV.str []]) (by kernel_rfl) (by kernel_rfl) (by kernel_rfl) rfl tg n ps o nx
@[go_sem] theorem ee9 : u4 Tryz.prog 34 = some 1 := by kernel_rfl
@[go_sem] theorem ef0 : O7 Tryz.prog 34 = some false := by kernel_rfl
@[go_sem] theorem dK6 (o n cs) : R9 Tryz.prog o 34 (.sl n cs) = some (.int .i64 n) := aG5 (e := 48) (by kernel_rfl) o n cs
@[go_sem] theorem dK7 (o k g off n) : R9 Tryz.prog o 34 (.ref k g off n) = some (.int .i64 n) := ad1 (e := 48) (by kernel_rfl) o k g off n
@[go_sem] theorem dK8 (n cs i) : n9 Tryz.prog 34 (.sl n cs) i = if 0 ≤ i ∧ i < (n : Int) then some (.fptr (cs.drop (i.toNat * 5))) else none := ad0 (s := 5) (by kernel_rfl) n cs i
@[go_sem] theorem dW1 (k g off n x o nx) : aa0 Tryz.prog 34 (.ref k g off n) x ⟨o, nx⟩ = (I5 o x).bind fun q => (V1 (o k) g).bind (aV0 k off n 5 q.1 q.2 o nx) := aV1 (by kernel_rfl) k g off n x o nx
@[go_sem] theorem dW2 (tg l c o nx) : y7 Tryz.prog tg 34 l c ⟨o, nx⟩ = if 0 ≤ l ∧ l ≤ c ∧ c * 40 ≤ ab7 ∧ c ≤ ab7 then some (.ref tg tg 0 l.toNat, ⟨upd o tg (.row ⟨48, 5, tg, false, true, rep [AV.int .i64 0, AV.int .i64 0, AV.int .i64 0, AV.int .i64 0, AV.int .i64 0] l.toNat⟩), nx⟩) else none := aN5 (e := 48) (s := 4) (b := 40) (z := [AV.int .i64 0, AV.int .i64 0, AV.int .i64 0, AV.int .i64 0, AV.int .i64 0]) (by kernel_rfl) (by kernel_rfl) (by kernel_rfl) (by kernel_rfl) rfl tg l c o nx
@[go_sem] theorem dW3 (tg n ps o nx) : s9 Tryz.prog tg 34 n ps ⟨o, nx⟩ = if n * 5 ≤ 16777216 then (C6 (fun i => some (i * 5, 5)) (rep [AV.int .i64 0, AV.int .i64 0, AV.int .i64 0, AV.int .i64 0, AV.int .i64 0] n) ps).map (fun cs => (.ref tg tg 0 n, ⟨upd o tg (.row ⟨48, 5, tg, false, true, cs⟩), nx⟩)) else none := al4 (e := 48) (s := 4) (z := [AV.int .i64 0, AV.int .i64 0, AV.int .i64 0, AV.int .i64 0, AV.int .i64 0]) (by kernel_rfl) (by kernel_rfl) (by kernel_rfl) rfl tg n ps o nx
@[go_sem] theorem dW4 (tg x y o nx) : B9 Tryz.prog tg 34 34 x y ⟨o, nx⟩ = (I5 o y).bind fun q => aU9 tg 48 5 40 x q.1 q.2 o nx := av3 (e := 48) (s := 4) (b := 39) (z := [AV.int .i64 0, AV.int .i64 0, AV.int .i64 0, AV.int .i64 0, AV.int .i64 0]) (by kernel_rfl) (by kernel_rfl) (by kernel_rfl) (by kernel_rfl) rfl (by kernel_rfl) tg x y o nx
@[go_sem] theorem ef1 : u4 Tryz.prog 35 = some 1 := by kernel_rfl
@[go_sem] theorem ef2 : O7 Tryz.prog 35 = some false := by kernel_rfl
@[go_sem] theorem dK9 (o n cs) : R9 Tryz.prog o 35 (.sl n cs) = some (.int .i64 n) := aG5 (e := 4) (by kernel_rfl) o n cs
@[go_sem] theorem dL0 (o k g off n) : R9 Tryz.prog o 35 (.ref k g off n) = some (.int .i64 n) := ad1 (e := 4) (by kernel_rfl) o k g off n
@[go_sem] theorem dL1 (n cs i) : n9 Tryz.prog 35 (.sl n cs) i = if 0 ≤ i ∧ i < (n : Int) then some (.fptr (cs.drop (i.toNat * 1))) else none := ad0 (s := 1) (by kernel_rfl) n cs i
@[go_sem] theorem dL2 (k g off n i) : n9 Tryz.prog 35 (.ref k g off n) i = if 0 ≤ i ∧ i < (n : Int) then some (.ptr k g (off + i.toNat * 1)) else none := Q7 (s := 1) (by kernel_rfl) k g off n i
@[go_sem] theorem dW5 (k g off n x o nx) : aa0 Tryz.prog 35 (.ref k g off n) x ⟨o, nx⟩ = (I5 o x).bind fun q => (V1 (o k) g).bind (aV0 k off n 1 q.1 q.2 o nx) := aV1 (by kernel_rfl) k g off n x o nx
@[go_sem] theorem dW6 (tg l c o nx) : y7 Tryz.prog tg 35 l c ⟨o, nx⟩ = if 0 ≤ l ∧ l ≤ c ∧ c * 1 ≤ ab7 ∧ c ≤ ab7 then some (.ref tg tg 0 l.toNat, ⟨upd o tg (.row ⟨4, 1, tg, false, true, rep [AV.bool false] l.toNat⟩), nx⟩) else none := aN5 (e := 4) (s := 0) (b := 1) (z := [AV.bool false]) (by kernel_rfl) (by kernel_rfl) (by kernel_rfl) (by kernel_rfl) rfl tg l c o nx
@[go_sem] theorem dW7 (tg n ps o nx) : s9 Tryz.prog tg 35 n ps ⟨o, nx⟩ = if n * 1 ≤ 16777216 then (C6 (fun i => some (i * 1, 1)) (rep [AV.bool false] n) ps).map (fun cs => (.ref tg tg 0 n, ⟨upd o tg (.row ⟨4, 1, tg, false, true, cs⟩), nx⟩)) else none := al4 (e := 4) (s := 0) (z := [AV.bool false]) (by kernel_rfl) (by kernel_rfl) (by kernel_rfl) rfl tg n ps o nx
@[go_sem] theorem dW8 (tg x y o nx) : B9 Tryz.prog tg 35 35 x y ⟨o, nx⟩ = (I5 o y).bind fun q => aU9 tg 4 1 1 x q.1 q.2 o nx := av3 (e := 4) (s := 0) (b := 0) (z := [AV.bool false]) (by kernel_rfl) (by kernel_rfl) (by kernel_rfl) (by kernel_rfl) rfl (by kernel_rfl) tg x y o nx
@[go_sem] theorem ef3 : u4 Tryz.prog 37 = some 2 := by kernel_rfl
@[go_sem] theorem ef4 : O7 Tryz.prog 37 = some true := by kernel_rfl
@[go_sem] theorem ef5 : N3 Tryz.prog 37 = some [AV.nil, AV.nil] := by kernel_rfl
@[go_sem] theorem dL3 (k g off) : l7 Tryz.prog 37 0 (.ptr k g off) = some (.ptr k g (off + 0)) := B3 (s := 0) (ft := 34) (by kernel_rfl) (by kernel_rfl) k g off
@[go_sem] theorem dL4 (cs) : l7 Tryz.prog 37 0 (.fptr cs) = some (.fptr (cs.drop 0)) := U3 (s := 0) (ft := 34) (by kernel_rfl) (by kernel_rfl) cs
@[go_sem] theorem dL5 (k g off) : l7 Tryz.prog 37 1 (.ptr k g off) = some (.ptr k g (off + 1)) := B3 (s := 0) (ft := 35) (by kernel_rfl) (by kernel_rfl) k g off
@[go_sem] theorem dW9 (xs) : H4 Tryz.prog 37 xs = (C6 (fun i => ([(0, 1), (1, 1)] : List (Nat × Nat))[i]?) [AV.nil, AV.nil] xs).map .agg := by kernel_rfl
@[go_sem] theorem ef6 : u4 Tryz.prog 48 = some 5 := by kernel_rfl
@[go_sem] theorem ef7 : O7 Tryz.prog 48 = some true := by kernel_rfl
@[go_sem] theorem ef8 : N3 Tryz.prog 48 = some [AV.int .i64 0, AV.int .i64 0, AV.int .i64 0, AV.int .i64 0, AV.int .i64 0] := by kernel_rfl
@[go_sem] theorem dL6 (cs i) : n9 Tryz.prog 48 (.fptr cs) i = if 0 ≤ i ∧ i < 5 then some (.fptr (cs.drop (i.toNat * 1))) else none := bY8 (n := 5) (e := 3) (s := 1) (by kernel_rfl) (by kernel_rfl) cs i
@[go_sem] theorem dL7 (k g off i) : n9 Tryz.prog 48 (.ptr k g off) i = if 0 ≤ i ∧ i < 5 then some (.ptr k g (off + i.toNat * 1)) else none := bd8 (n := 5) (e := 3) (s := 1) (by kernel_rfl) (by kernel_rfl) k g off i
@[go_sem] theorem dX0 (cs i) : Y4 Tryz.prog 48 (.agg cs) i = if 0 ≤ i ∧ i < 5 then W8 Tryz.prog 3 (cs.drop (i.toNat * 1)) else none := bE9 (n := 5) (e := 3) (s := 1) (by kernel_rfl) (by kernel_rfl) cs i
@[go_sem] theorem dx4 : I4 Tryz.prog 48 = some [Leaf.int, Leaf.int, Leaf.int, Leaf.int, Leaf.int] := by kernel_rfl
@[go_sem] theorem ef9 : u4 Tryz.prog 53 = some 3 := by kernel_rfl
@[go_sem] theorem eg0 : O7 Tryz.prog 53 = some true := by kernel_rfl
@[go_sem] theorem dL8 (k g off) : l7 Tryz.prog 53 0 (.ptr k g off) = some (.ptr k g (off + 0)) := B3 (s := 0) (ft := 3) (by kernel_rfl) (by kernel_rfl) k g off
@[go_sem] theorem dL9 (k g off) : l7 Tryz.prog 53 1 (.ptr k g off) = some (.ptr k g (off + 1)) := B3 (s := 0) (ft := 3) (by kernel_rfl) (by kernel_rfl) k g off
@[go_sem] theorem dM0 (k g off) : l7 Tryz.prog 53 2 (.ptr k g off) = some (.ptr k g (off + 2)) := B3 (s := 0) (ft := 22) (by kernel_rfl) (by kernel_rfl) k g off
@[go_sem] theorem dM1 (cs) : l7 Tryz.prog 53 2 (.fptr cs) = some (.fptr (cs.drop 2)) := U3 (s := 0) (ft := 22) (by kernel_rfl) (by kernel_rfl) cs
@[go_sem] theorem eg1 : u4 Tryz.prog 59 = some 1 := by kernel_rfl
@[go_sem] theorem eg2 : O7 Tryz.prog 59 = some false := by kernel_rfl
@[go_sem] theorem dM2 (o) : R9 Tryz.prog o 59 .nil = some (.int .i64 0) := aJ6 (e := 117) (by kernel_rfl) o
@[go_sem] theorem dM3 (o n cs) : R9 Tryz.prog o 59 (.sl n cs) = some (.int .i64 n) := aG5 (e := 117) (by kernel_rfl) o n cs
@[go_sem] theorem dM4 (o k g off n) : R9 Tryz.prog o 59 (.ref k g off n) = some (.int .i64 n) := ad1 (e := 117) (by kernel_rfl) o k g off n
@[go_sem] theorem dM5 (n cs i) : n9 Tryz.prog 59 (.sl n cs) i = if 0 ≤ i ∧ i < (n : Int) then some (.fptr (cs.drop (i.toNat * 3))) else none := ad0 (s := 3) (by kernel_rfl) n cs i
@[go_sem] theorem dM6 (k g off n i) : n9 Tryz.prog 59 (.ref k g off n) i = if 0 ≤ i ∧ i < (n : Int) then some (.ptr k g (off + i.toNat * 3)) else none := Q7 (s := 3) (by kernel_rfl) k g off n i
@[go_sem] theorem dX1 (k g off n x o nx) : aa0 Tryz.prog 59 (.ref k g off n) x ⟨o, nx⟩ = (I5 o x).bind fun q => (V1 (o k) g).bind (aV0 k off n 3 q.1 q.2 o nx) := aV1 (by kernel_rfl) k g off n x o nx
@[go_sem] theorem dX2 (tg l c o nx) : y7 Tryz.prog tg 59 l c ⟨o, nx⟩ = if 0 ≤ l ∧ l ≤ c ∧ c * 24 ≤ ab7 ∧ c ≤ ab7 then some (.ref tg tg 0 l.toNat, ⟨upd o tg (.row ⟨117, 3, tg, false, true, rep [AV.int .i64 0, AV.int .i64 0, AV.int .i64 0] l.toNat⟩), nx⟩) else none := aN5 (e := 117) (s := 2) (b := 24) (z := [AV.int .i64 0, AV.int .i64 0, AV.int .i64 0]) (by kernel_rfl) (by kernel_rfl) (by kernel_rfl) (by kernel_rfl) rfl tg l c o nx
@[go_sem] theorem dX3 (tg n ps o nx) : s9 Tryz.prog tg 59 n ps ⟨o, nx⟩ = if n * 3 ≤ 16777216 then (C6 (fun i => some (i * 3, 3)) (rep [AV.int .i64 0, AV.int .i64 0, AV.int .i64 0] n) ps).map (fun cs => (.ref tg tg 0 n, ⟨upd o tg (.row ⟨117, 3, tg, false, true, cs⟩), nx⟩)) else none := al4 (e := 117) (s := 2) (z := [AV.int .i64 0, AV.int .i64 0, AV.int .i64 0]) (by kernel_rfl) (by kernel_rfl) (by kernel_rfl) rfl tg n ps o nx
@[go_sem] theorem dX4 (tg x y o nx) : B9 Tryz.prog tg 59 59 x y ⟨o, nx⟩ = (I5 o y).bind fun q => aU9 tg 117 3 24 x q.1 q.2 o nx := av3 (e := 117) (s := 2) (b := 23) (z := [AV.int .i64 0, AV.int .i64 0, AV.int .i64 0]) (by kernel_rfl) (by kernel_rfl) (by kernel_rfl) (by kernel_rfl) rfl (by kernel_rfl) tg x y o nx
@[go_sem] theorem eg3 : u4 Tryz.prog 60 = some 1 := by kernel_rfl
@[go_sem] theorem eg4 : O7 Tryz.prog 60 = some false := by kernel_rfl
@[go_sem] theorem dM7 (o) : R9 Tryz.prog o 60 .nil = some (.int .i64 0) := aJ6 (e := 164) (by kernel_rfl) o
@[go_sem] theorem dM8 (o n cs) : R9 Tryz.prog o 60 (.sl n cs) = some (.int .i64 n) := aG5 (e := 164) (by kernel_rfl) o n cs
@[go_sem] theorem dM9 (o k g off n) : R9 Tryz.prog o 60 (.ref k g off n) = some (.int .i64 n) := ad1 (e := 164) (by kernel_rfl) o k g off n
@[go_sem] theorem dN0 (n cs i) : n9 Tryz.prog 60 (.sl n cs) i = if 0 ≤ i ∧ i < (n : Int) then some (.fptr (cs.drop (i.toNat * 2))) else none := ad0 (s := 2) (by kernel_rfl) n cs i
@[go_sem] theorem dX5 (k g off n x o nx) : aa0 Tryz.prog 60 (.ref k g off n) x ⟨o, nx⟩ = (I5 o x).bind fun q => (V1 (o k) g).bind (aV0 k off n 2 q.1 q.2 o nx) := aV1 (by kernel_rfl) k g off n x o nx
@[go_sem] theorem dX6 (tg l c o nx) : y7 Tryz.prog tg 60 l c ⟨o, nx⟩ = if 0 ≤ l ∧ l ≤ c ∧ c * 16 ≤ ab7 ∧ c ≤ ab7 then some (.ref tg tg 0 l.toNat, ⟨upd o tg (.row ⟨164, 2, tg, false, true, rep [AV.int .i64 0, AV.int .i64 0] l.toNat⟩), nx⟩) else none := aN5 (e := 164) (s := 1) (b := 16) (z := [AV.int .i64 0, AV.int .i64 0]) (by kernel_rfl) (by kernel_rfl) (by kernel_rfl) (by kernel_rfl) rfl tg l c o nx
@[go_sem] theorem dX7 (tg n ps o nx) : s9 Tryz.prog tg 60 n ps ⟨o, nx⟩ = if n * 2 ≤ 16777216 then (C6 (fun i => some (i * 2, 2)) (rep [AV.int .i64 0, AV.int .i64 0] n) ps).map (fun cs => (.ref tg tg 0 n, ⟨upd o tg (.row ⟨164, 2, tg, false, true, cs⟩), nx⟩)) else none := al4 (e := 164) (s := 1) (z := [AV.int .i64 0, AV.int .i64 0]) (by kernel_rfl) (by kernel_rfl) (by kernel_rfl) rfl tg n ps o nx
@[go_sem] theorem dX8 (tg x y o nx) : B9 Tryz.prog tg 60 60 x y ⟨o, nx⟩ = (I5 o y).bind fun q => aU9 tg 164 2 16 x q.1 q.2 o nx := av3 (e := 164) (s := 1) (b := 15) (z := [AV.int .i64 0, AV.int .i64 0]) (by kernel_rfl) (by kernel_rfl) (by kernel_rfl) (by kernel_rfl) rfl (by kernel_rfl) tg x y o nx
@[go_sem] theorem eg5 : u4 Tryz.prog 62 = some 5 := by kernel_rfl
@[go_sem] theorem eg6 : O7 Tryz.prog 62 = some true := by kernel_rfl
@[go_sem] theorem eg7 : N3 Tryz.prog 62 = some [AV.int .i64 0, AV.int .i64 0, AV.int .i64 0, AV.nil, AV.nil] := by kernel_rfl
@[go_sem] theorem dN1 (k g off) : l7 Tryz.prog 62 0 (.ptr k g off) = some (.ptr k g (off + 0)) := B3 (s := 0) (ft := 3) (by kernel_rfl) (by kernel_rfl) k g off
@[go_sem] theorem dN2 (k g off) : l7 Tryz.prog 62 1 (.ptr k g off) = some (.ptr k g (off + 1)) := B3 (s := 0) (ft := 3) (by kernel_rfl) (by kernel_rfl) k g off
@[go_sem] theorem dN3 (k g off) : l7 Tryz.prog 62 2 (.ptr k g off) = some (.ptr k g (off + 2)) := B3 (s := 0) (ft := 3) (by kernel_rfl) (by kernel_rfl) k g off
@[go_sem] theorem dN4 (cs) : l7 Tryz.prog 62 2 (.fptr cs) = some (.fptr (cs.drop 2)) := U3 (s := 0) (ft := 3) (by kernel_rfl) (by kernel_rfl) cs
@[go_sem] theorem dN5 (k g off) : l7 Tryz.prog 62 3 (.ptr k g off) = some (.ptr k g (off + 3)) := B3 (s := 0) (ft := 59) (by kernel_rfl) (by kernel_rfl) k g off
@[go_sem] theorem dN6 (k g off) : l7 Tryz.prog 62 4 (.ptr k g off) = some (.ptr k g (off + 4)) := B3 (s := 0) (ft := 60) (by kernel_rfl) (by kernel_rfl) k g off
@[go_sem] theorem dX9 (xs) : H4 Tryz.prog 62 xs = (C6 (fun i => ([(0, 1), (1, 1), (2, 1), (3, 1), (4, 1)] : List (Nat × Nat))[i]?) [AV.int .i64 0, AV.int .i64 0, AV.int .i64 0, AV.nil, AV.nil] xs).map .agg := by kernel_rfl
@[go_sem] theorem dN7 (o n cs) : R9 Tryz.prog o 72 (.sl n cs) = some (.int .i64 n) := aG5 (e := 4) (by kernel_rfl) o n cs
@[go_sem] theorem dN8 (n cs i) : n9 Tryz.prog 72 (.sl n cs) i = if 0 ≤ i ∧ i < (n : Int) then some (.fptr (cs.drop (i.toNat * 1))) else none := ad0 (s := 1) (by kernel_rfl) n cs i
@[go_sem] theorem dN9 (k g off n i) : n9 Tryz.prog 72 (.ref k g off n) i = if 0 ≤ i ∧ i < (n : Int) then some (.ptr k g (off + i.toNat * 1)) else none := Q7 (s := 1) (by kernel_rfl) k g off n i
@[go_sem] theorem dY0 (tg l c o nx) : y7 Tryz.prog tg 72 l c ⟨o, nx⟩ = if 0 ≤ l ∧ l ≤ c ∧ c * 1 ≤ ab7 ∧ c ≤ ab7 then some (.ref tg tg 0 l.toNat, ⟨upd o tg (.row ⟨4, 1, tg, false, true, rep [AV.bool false] l.toNat⟩), nx⟩) else none := aN5 (e := 4) (s := 0) (b := 1) (z := [AV.bool false]) (by kernel_rfl) (by kernel_rfl) (by kernel_rfl) (by kernel_rfl) rfl tg l c o nx
@[go_sem] theorem dY1 (tg n ps o nx) : s9 Tryz.prog tg 72 n ps ⟨o, nx⟩ = if n * 1 ≤ 16777216 then (C6 (fun i => some (i * 1, 1)) (rep [AV.bool false] n) ps).map (fun cs => (.ref tg tg 0 n, ⟨upd o tg (.row ⟨4, 1, tg, false, true, cs⟩), nx⟩)) else none := al4 (e := 4) (s := 0) (z := [AV.bool false]) (by kernel_rfl) (by kernel_rfl) (by kernel_rfl) rfl tg n ps o nx
@[go_sem] theorem dY2 (tg x y o nx) : B9 Tryz.prog tg 72 72 x y ⟨o, nx⟩ = (I5 o y).bind fun q => aU9 tg 4 1 1 x q.1 q.2 o nx := av3 (e := 4) (s := 0) (b := 0) (z := [AV.bool false]) (by kernel_rfl) (by kernel_rfl) (by kernel_rfl) (by kernel_rfl) rfl (by kernel_rfl) tg x y o nx
@[go_sem] theorem dO0 (cs) : l7 Tryz.prog 80 0 (.fptr cs) = some (.fptr (cs.drop 0)) := U3 (s := 1) (ft := 37) (by kernel_rfl) (by kernel_rfl) cs
@[go_sem] theorem dO1 (k g off) : l7 Tryz.prog 80 1 (.ptr k g off) = some (.ptr k g (off + 2)) := B3 (s := 0) (ft := 23) (by kernel_rfl) (by kernel_rfl) k g off
@[go_sem] theorem dO2 (cs) : l7 Tryz.prog 80 1 (.fptr cs) = some (.fptr (cs.drop 2)) := U3 (s := 0) (ft := 23) (by kernel_rfl) (by kernel_rfl) cs
@[go_sem] theorem dY3 (xs) : H4 Tryz.prog 80 xs = (C6 (fun i => ([(0, 2), (2, 1)] : List (Nat × Nat))[i]?) [AV.nil, AV.nil, AV.nil] xs).map .agg := by kernel_rfl
@[go_sem] theorem dY4 (m s ok o nx) : Q5 Tryz.prog 82 (.mp m) (.int .i64 s) ok ⟨o, nx⟩ = (aN7 (o m)).bind fun es => (T5 (.int .i64 s) es).map (lkV ok (AV.int .i64 0)) := cU4 (kt := 3) (et := 3) (z := (AV.int .i64 0)) (k := .int .i64 s) (by kernel_rfl) (by kernel_rfl) (by kernel_rfl) m ok o nx
@[go_sem] theorem dY5 (m s v o nx) : u7 Tryz.prog 82 (.mp m) (.int .i64 s) v ⟨o, nx⟩ = (aN7 (o m)).bind (ca0 m (.int .i64 s) v o nx) := cU5 (kt := 3) (et := 3) (k := .int .i64 s) (by kernel_rfl) (by kernel_rfl) m v o nx
@[go_sem] theorem eg8 : u4 Tryz.prog 88 = some 1 := by kernel_rfl
@[go_sem] theorem eg9 : O7 Tryz.prog 88 = some false := by kernel_rfl
@[go_sem] theorem eh0 : N3 Tryz.prog 88 = some [AV.nilp] := by kernel_rfl
@[go_sem] theorem dO3 (k g off) : l7 Tryz.prog 90 0 (.ptr k g off) = some (.ptr k g (off + 0)) := B3 (s := 0) (ft := 26) (by kernel_rfl) (by kernel_rfl) k g off
@[go_sem] theorem dO4 (k g off) : l7 Tryz.prog 90 1 (.ptr k g off) = some (.ptr k g (off + 1)) := B3 (s := 0) (ft := 26) (by kernel_rfl) (by kernel_rfl) k g off
@[go_sem] theorem dY6 (xs) : H4 Tryz.prog 90 xs = (C6 (fun i => ([(0, 1), (1, 1)] : List (Nat × Nat))[i]?) [AV.nil, AV.nil] xs).map .agg := by kernel_rfl
@[go_sem] theorem eh1 : u4 Tryz.prog 91 = some 1 := by kernel_rfl
@[go_sem] theorem eh2 : O7 Tryz.prog 91 = some false := by kernel_rfl
@[go_sem] theorem dO5 (o k g off n) : R9 Tryz.prog o 91 (.ref k g off n) = some (.int .i64 n) := ad1 (e := 90) (by kernel_rfl) o k g off n
@[go_sem] theorem dO6 (k g off n i) : n9 Tryz.prog 91 (.ref k g off n) i = if 0 ≤ i ∧ i < (n : Int) then some (.ptr k g (off + i.toNat * 2)) else none := Q7 (s := 2) (by kernel_rfl) k g off n i
@[go_sem] theorem dO7 (k g off n lo hi) : ab9 Tryz.prog 91 (.ref k g off n) lo hi = if 0 ≤ lo.getD 0 ∧ lo.getD 0 ≤ hi.getD n ∧ hi.getD n ≤ n then some (.ref k g (off + (lo.getD 0).toNat * 2) ((hi.getD n).toNat - (lo.getD 0).toNat)) else none := bF0 (s := 1) (by kernel_rfl) k g off n lo hi
@[go_sem] theorem dY7 (tg n ps o nx) : s9 Tryz.prog tg 91 n ps ⟨o, nx⟩ = if n * 2 ≤ 16777216 then (C6 (fun i => some (i * 2, 2)) (rep [AV.nil, AV.nil] n) ps).map (fun cs => (.ref tg tg 0 n, ⟨upd o tg (.row ⟨90, 2, tg, false, true, cs⟩), nx⟩)) else none := al4 (e := 90) (s := 1) (z := [AV.nil, AV.nil]) (by kernel_rfl) (by kernel_rfl) (by kernel_rfl) rfl tg n ps o nx
@[go_sem] theorem dY8 (tg x y o nx) : B9 Tryz.prog tg 91 91 x y ⟨o, nx⟩ = (I5 o y).bind fun q => aU9 tg 90 2 48 x q.1 q.2 o nx := av3 (e := 90) (s := 1) (b := 47) (z := [AV.nil, AV.nil]) (by kernel_rfl) (by kernel_rfl) (by kernel_rfl) (by kernel_rfl) rfl (by kernel_rfl) tg x y o nx
@[go_sem] theorem dO8 (k g off) : l7 Tryz.prog 93 0 (.ptr k g off) = some (.ptr k g (off + 0)) := B3 (s := 0) (ft := 9) (by kernel_rfl) (by kernel_rfl) k g off
@[go_sem] theorem dO9 (cs) : l7 Tryz.prog 93 0 (.fptr cs) = some (.fptr (cs.drop 0)) := U3 (s := 0) (ft := 9) (by kernel_rfl) (by kernel_rfl) cs
@[go_sem] theorem dP0 (k g off) : l7 Tryz.prog 93 1 (.ptr k g off) = some (.ptr k g (off + 1)) := B3 (s := 0) (ft := 3) (by kernel_rfl) (by kernel_rfl) k g off
@[go_sem] theorem dP1 (cs) : l7 Tryz.prog 93 1 (.fptr cs) = some (.fptr (cs.drop 1)) := U3 (s := 0) (ft := 3) (by kernel_rfl) (by kernel_rfl) cs
@[go_sem] theorem dP2 (k g off) : l7 Tryz.prog 93 2 (.ptr k g off) = some (.ptr k g (off + 2)) := B3 (s := 0) (ft := 91) (by kernel_rfl) (by kernel_rfl) k g off
@[go_sem] theorem dY9 (xs) : H4 Tryz.prog 93 xs = (C6 (fun i => ([(0, 1), (1, 1), (2, 1)] : List (Nat × Nat))[i]?) [AV.str [], AV.int .i64 0, AV.nil] xs).map .agg := by kernel_rfl
@[go_sem] theorem dx5 (k g off) : l7 Tryz.prog 106 0 (.ptr k g off) = some (.ptr k g (off + 0)) := B3 (s := 4) (ft := 62) (by kernel_rfl) (by kernel_rfl) k g off
@[go_sem] theorem dP3 (xs) : H4 Tryz.prog 106 xs = (C6 (fun i => ([(0, 5)] : List (Nat × Nat))[i]?) [AV.int .i64 0, AV.int .i64 0, AV.int .i64 0, AV.nil, AV.nil] xs).map .agg := by kernel_rfl
@[go_sem] theorem dZ0 : u4 Tryz.prog 108 = some 2 := by kernel_rfl
@[go_sem] theorem dZ1 : O7 Tryz.prog 108 = some true := by kernel_rfl
@[go_sem] theorem dZ2 : N3 Tryz.prog 108 = some [AV.int .i64 0, AV.int .i64 0] := by kernel_rfl
@[go_sem] theorem dx6 (k g off) : l7 Tryz.prog 108 0 (.ptr k g off) = some (.ptr k g (off + 0)) := B3 (s := 0) (ft := 3) (by kernel_rfl) (by kernel_rfl) k g off
@[go_sem] theorem dx7 (k g off) : l7 Tryz.prog 108 1 (.ptr k g off) = some (.ptr k g (off + 1)) := B3 (s := 0) (ft := 3) (by kernel_rfl) (by kernel_rfl) k g off
@[go_sem] theorem dP4 (xs) : H4 Tryz.prog 108 xs = (C6 (fun i => ([(0, 1), (1, 1)] : List (Nat × Nat))[i]?) [AV.int .i64 0, AV.int .i64 0] xs).map .agg := by kernel_rfl
@[go_sem] theorem dZ3 : u4 Tryz.prog 111 = some 1 := by kernel_rfl
@[go_sem] theorem dZ4 : O7 Tryz.prog 111 = some false := by kernel_rfl
@[go_sem] theorem dx8 (k g off n i) : n9 Tryz.prog 111 (.ref k g off n) i = if 0 ≤ i ∧ i < (n : Int) then some (.ptr k g (off + i.toNat * 1)) else none := Q7 (s := 1) (by kernel_rfl) k g off n i
@[go_sem] theorem dP5 (tg l c o nx) : y7 Tryz.prog tg 111 l c ⟨o, nx⟩ = if 0 ≤ l ∧ l ≤ c ∧ c * 24 ≤ ab7 ∧ c ≤ ab7 then some (.ref tg tg 0 l.toNat, ⟨upd o tg (.row ⟨59, 1, tg, false, true, rep [AV.nil] l.toNat⟩), nx⟩) else none := aN5 (e := 59) (s := 0) (b := 24) (z := [AV.nil]) (by kernel_rfl) (by kernel_rfl) (by kernel_rfl) (by kernel_rfl) rfl tg l c o nx
@[go_sem] theorem dZ5 : u4 Tryz.prog 112 = some 1 := by kernel_rfl
@[go_sem] theorem dZ6 : O7 Tryz.prog 112 = some false := by kernel_rfl
@[go_sem] theorem dP6 (m s ok o nx) : Q5 Tryz.prog 112 (.mp m) (.str s) ok ⟨o, nx⟩ = (aN7 (o m)).bind fun es => (T5 (.str s) es).map (lkV ok (AV.int .i64 0)) := cU4 (kt := 9) (et := 3) (z := (AV.int .i64 0)) (k := .str s) (by kernel_rfl) (by kernel_rfl) (by kernel_rfl) m ok o nx
@[go_sem] theorem dP7 (m s v o nx) : u7 Tryz.prog 112 (.mp m) (.str s) v ⟨o, nx⟩ = (aN7 (o m)).bind (ca0 m (.str s) v o nx) := cU5 (kt := 9) (et := 3) (k := .str s) (by kernel_rfl) (by kernel_rfl) m v o nx
@[go_sem] theorem dZ7 : u4 Tryz.prog 113 = some 1 := by kernel_rfl
@[go_sem] theorem dZ8 : O7 Tryz.prog 113 = some false := by kernel_rfl
@[go_sem] theorem dx9 (o) : R9 Tryz.prog o 113 .nil = some (.int .i64 0) := aJ6 (e := 23) (by kernel_rfl) o
@[go_sem] theorem dy0 (o k g off n) : R9 Tryz.prog o 113 (.ref k g off n) = some (.int .i64 n) := ad1 (e := 23) (by kernel_rfl) o k g off n
@[go_sem] theorem dy1 (n cs i) : n9 Tryz.prog 113 (.sl n cs) i = if 0 ≤ i ∧ i < (n : Int) then some (.fptr (cs.drop (i.toNat * 1))) else none := ad0 (s := 1) (by kernel_rfl) n cs i
@[go_sem] theorem dy2 (k g off n i) : n9 Tryz.prog 113 (.ref k g off n) i = if 0 ≤ i ∧ i < (n : Int) then some (.ptr k g (off + i.toNat * 1)) else none := Q7 (s := 1) (by kernel_rfl) k g off n i
@[go_sem] theorem dP8 (tg l c o nx) : y7 Tryz.prog tg 113 l c ⟨o, nx⟩ = if 0 ≤ l ∧ l ≤ c ∧ c * 24 ≤ ab7 ∧ c ≤ ab7 then some (.ref tg tg 0 l.toNat, ⟨upd o tg (.row ⟨23, 1, tg, false, true, rep [AV.nil] l.toNat⟩), nx⟩) else none := aN5 (e := 23) (s := 0) (b := 24) (z := [AV.nil]) (by kernel_rfl) (by kernel_rfl) (by kernel_rfl) (by kernel_rfl) rfl tg l c o nx
@[go_sem] theorem dP9 (tg n ps o nx) : s9 Tryz.prog tg 113 n ps ⟨o, nx⟩ = if n * 1 ≤ 16777216 then (C6 (fun i => some (i * 1, 1)) (rep [AV.nil] n) ps).map (fun cs => (.ref tg tg 0 n, ⟨upd o tg (.row ⟨23, 1, tg, false, true, cs⟩), nx⟩)) else none := al4 (e := 23) (s := 0) (z := [AV.nil]) (by kernel_rfl) (by kernel_rfl) (by kernel_rfl) rfl tg n ps o nx
@[go_sem] theorem dQ0 (tg x y o nx) : B9 Tryz.prog tg 113 113 x y ⟨o, nx⟩ = (I5 o y).bind fun q => aU9 tg 23 1 24 x q.1 q.2 o nx := av3 (e := 23) (s := 0) (b := 23) (z := [AV.nil]) (by kernel_rfl) (by kernel_rfl) (by kernel_rfl) (by kernel_rfl) rfl (by kernel_rfl) tg x y o nx
@[go_sem] theorem dy3 (k g off) : l7 Tryz.prog 115 0 (.ptr k g off) = some (.ptr k g (off + 0)) := B3 (s := 4) (ft := 62) (by kernel_rfl) (by kernel_rfl) k g off
@[go_sem] theorem dy4 (cs) : l7 Tryz.prog 115 0 (.fptr cs) = some (.fptr (cs.drop 0)) := U3 (s := 4) (ft := 62) (by kernel_rfl) (by kernel_rfl) cs
@[go_sem] theorem dy5 (k g off) : l7 Tryz.prog 115 1 (.ptr k g off) = some (.ptr k g (off + 5)) := B3 (s := 0) (ft := 111) (by kernel_rfl) (by kernel_rfl) k g off
@[go_sem] theorem dy6 (k g off) : l7 Tryz.prog 115 2 (.ptr k g off) = some (.ptr k g (off + 6)) := B3 (s := 0) (ft := 112) (by kernel_rfl) (by kernel_rfl) k g off
@[go_sem] theorem dy7 (k g off) : l7 Tryz.prog 115 3 (.ptr k g off) = some (.ptr k g (off + 7)) := B3 (s := 0) (ft := 113) (by kernel_rfl) (by kernel_rfl) k g off
@[go_sem] theorem dQ1 (xs) : H4 Tryz.prog 115 xs = (C6 (fun i => ([(0, 5), (5, 1), (6, 1), (7, 1)] : List (Nat × Nat))[i]?) [AV.int .i64 0, AV.int .i64 0, AV.int .i64 0, AV.nil, AV.nil, AV.nil, AV.nilmp, AV.nil] xs).map .agg := by kernel_rfl
@[go_sem] theorem dZ9 : u4 Tryz.prog 117 = some 3 := by kernel_rfl
@[go_sem] theorem ea0 : O7 Tryz.prog 117 = some true := by kernel_rfl
@[go_sem] theorem ea1 : N3 Tryz.prog 117 = some [AV.int .i64 0, AV.int .i64 0, AV.int .i64 0] := by kernel_rfl
@[go_sem] theorem dy8 (k g off) : l7 Tryz.prog 117 0 (.ptr k g off) = some (.ptr k g (off + 0)) := B3 (s := 0) (ft := 3) (by kernel_rfl) (by kernel_rfl) k g off
@[go_sem] theorem dy9 (k g off) : l7 Tryz.prog 117 1 (.ptr k g off) = some (.ptr k g (off + 1)) := B3 (s := 0) (ft := 3) (by kernel_rfl) (by kernel_rfl) k g off
@[go_sem] theorem dz0 (k g off) : l7 Tryz.prog 117 2 (.ptr k g off) = some (.ptr k g (off + 2)) := B3 (s := 0) (ft := 3) (by kernel_rfl) (by kernel_rfl) k g off
@[go_sem] theorem dQ2 (xs) : H4 Tryz.prog 117 xs = (C6 (fun i => ([(0, 1), (1, 1), (2, 1)] : List (Nat × Nat))[i]?) [AV.int .i64 0, AV.int .i64 0, AV.int .i64 0] xs).map .agg := by kernel_rfl
@[go_sem] theorem dz1 (cs) : l7 Tryz.prog 124 0 (.fptr cs) = some (.fptr (cs.drop 0)) := U3 (s := 0) (ft := 9) (by kernel_rfl) (by kernel_rfl) cs
@[go_sem] theorem dz2 (k g off) : l7 Tryz.prog 124 1 (.ptr k g off) = some (.ptr k g (off + 1)) := B3 (s := 0) (ft := 3) (by kernel_rfl) (by kernel_rfl) k g off
@[go_sem] theorem dz3 (cs) : l7 Tryz.prog 124 1 (.fptr cs) = some (.fptr (cs.drop 1)) := U3 (s := 0) (ft := 3) (by kernel_rfl) (by kernel_rfl) cs
@[go_sem] theorem dz4 (k g off) : l7 Tryz.prog 124 2 (.ptr k g off) = some (.ptr k g (off + 2)) := B3 (s := 0) (ft := 3) (by kernel_rfl) (by kernel_rfl) k g off
@[go_sem] theorem dz5 (k g off) : l7 Tryz.prog 124 3 (.ptr k g off) = some (.ptr k g (off + 3)) := B3 (s := 0) (ft := 3) (by kernel_rfl) (by kernel_rfl) k g off
@[go_sem] theorem dz6 (cs) : l7 Tryz.prog 124 3 (.fptr cs) = some (.fptr (cs.drop 3)) := U3 (s := 0) (ft := 3) (by kernel_rfl) (by kernel_rfl) cs
@[go_sem] theorem dQ3 (xs) : H4 Tryz.prog 124 xs = (C6 (fun i => ([(0, 1), (1, 1), (2, 1), (3, 1)] : List (Nat × Nat))[i]?) [AV.str [], AV.int .i64 0, AV.int .i64 0, AV.int .i64 0] xs).map .agg := by kernel_rfl
@[go_sem] theorem dz7 (k g off) : l7 Tryz.prog 127 0 (.ptr k g off) = some (.ptr k g (off + 0)) := B3 (s := 4) (ft := 62) (by kernel_rfl) (by kernel_rfl) k g off
@[go_sem] theorem dz8 (k g off) : l7 Tryz.prog 127 1 (.ptr k g off) = some (.ptr k g (off + 5)) := B3 (s := 0) (ft := 4) (by kernel_rfl) (by kernel_rfl) k g off
@[go_sem] theorem dQ4 (xs) : H4 Tryz.prog 127 xs = (C6 (fun i => ([(0, 5), (5, 1)] : List (Nat × Nat))[i]?) [AV.int .i64 0, AV.int .i64 0, AV.int .i64 0, AV.nil, AV.nil, AV.bool false] xs).map .agg := by kernel_rfl
@[go_sem] theorem dz9 (o n cs) : R9 Tryz.prog o 131 (.sl n cs) = some (.int .i64 n) := aG5 (e := 35) (by kernel_rfl) o n cs
@[go_sem] theorem dA0 (o k g off n) : R9 Tryz.prog o 131 (.ref k g off n) = some (.int .i64 n) := ad1 (e := 35) (by kernel_rfl) o k g off n
@[go_sem] theorem dA1 (n cs i) : n9 Tryz.prog 131 (.sl n cs) i = if 0 ≤ i ∧ i < (n : Int) then some (.fptr (cs.drop (i.toNat * 1))) else none := ad0 (s := 1) (by kernel_rfl) n cs i
@[go_sem] theorem dA2 (k g off n i) : n9 Tryz.prog 131 (.ref k g off n) i = if 0 ≤ i ∧ i < (n : Int) then some (.ptr k g (off + i.toNat * 1)) else none := Q7 (s := 1) (by kernel_rfl) k g off n i
@[go_sem] theorem dQ5 (tg n ps o nx) : s9 Tryz.prog tg 131 n ps ⟨o, nx⟩ = if n * 1 ≤ 16777216 then (C6 (fun i => some (i * 1, 1)) (rep [AV.nil] n) ps).map (fun cs => (.ref tg tg 0 n, ⟨upd o tg (.row ⟨35, 1, tg, false, true, cs⟩), nx⟩)) else none := al4 (e := 35) (s := 0) (z := [AV.nil]) (by kernel_rfl) (by kernel_rfl) (by kernel_rfl) rfl tg n ps o nx
@[go_sem] theorem dQ6 (tg x y o nx) : B9 Tryz.prog tg 131 131 x y ⟨o, nx⟩ = (I5 o y).bind fun q => aU9 tg 35 1 24 x q.1 q.2 o nx := av3 (e := 35) (s := 0) (b := 23) (z := [AV.nil]) (by kernel_rfl) (by kernel_rfl) (by kernel_rfl) (by kernel_rfl) rfl (by kernel_rfl) tg x y o nx
@[go_sem] theorem dA3 (o n cs) : R9 Tryz.prog o 139 (.sl n cs) = some (.int .i64 n) := aG5 (e := 141) (by kernel_rfl) o n cs
@[go_sem] theorem dA4 (n cs i) : n9 Tryz.prog 139 (.sl n cs) i = if 0 ≤ i ∧ i < (n : Int) then some (.fptr (cs.drop (i.toNat * 6))) else none := ad0 (s := 6) (by kernel_rfl) n cs i
@[go_sem] theorem dQ7 (tg n ps o nx) : s9 Tryz.prog tg 139 n ps ⟨o, nx⟩ = if n * 6 ≤ 16777216 then (C6 (fun i => some (i * 6, 6)) (rep [AV.int .i64 0, AV.int .i64 0, AV.int .i64 0, AV.int .i64 0, AV.int .i64 0, AV.int .i64 0] n) ps).map (fun cs => (.ref tg tg 0 n, ⟨upd o tg (.row ⟨141, 6, tg, false, true, cs⟩), nx⟩)) else none := al4 (e := 141) (s := 5) (z := [AV.int .i64 0, AV.int .i64 0, AV.int .i64 0, AV.int .i64 0, AV.int .i64 0, AV.int .i64 0]) (by kernel_rfl) (by kernel_rfl) (by kernel_rfl) rfl tg n ps o nx
@[go_sem] theorem dQ8 (tg x y o nx) : B9 Tryz.prog tg 139 139 x y ⟨o, nx⟩ = (I5 o y).bind fun q => aU9 tg 141 6 48 x q.1 q.2 o nx := av3 (e := 141) (s := 5) (b := 47) (z := [AV.int .i64 0, AV.int .i64 0, AV.int .i64 0, AV.int .i64 0, AV.int .i64 0, AV.int .i64 0]) (by kernel_rfl) (by kernel_rfl) (by kernel_rfl) (by kernel_rfl) rfl (by kernel_rfl) tg x y o nx
@[go_sem] theorem ea2 : u4 Tryz.prog 141 = some 6 := by kernel_rfl
@[go_sem] theorem ea3 : O7 Tryz.prog 141 = some true := by kernel_rfl
@[go_sem] theorem ea4 : N3 Tryz.prog 141 = some [AV.int .i64 0, AV.int .i64 0, AV.int .i64 0, AV.int .i64 0, AV.int .i64 0, AV.int .i64 0] := by kernel_rfl
@[go_sem] theorem dA5 (k g off i) : n9 Tryz.prog 141 (.ptr k g off) i = if 0 ≤ i ∧ i < 6 then some (.ptr k g (off + i.toNat * 1)) else none := bd8 (n := 6) (e := 3) (s := 1) (by kernel_rfl) (by kernel_rfl) k g off i
@[go_sem] theorem dQ9 (xs) : H4 Tryz.prog 141 xs = (C6 (fun i => some (i * 1, 1)) [AV.int .i64 0, AV.int .i64 0, AV.int .i64 0, AV.int .i64 0, AV.int .i64 0, AV.int .i64 0] xs).map .agg := aN6 (n := 6) (e := 3) (by kernel_rfl) (by kernel_rfl) (by kernel_rfl) xs
@[go_sem] theorem cV0 : I4 Tryz.prog 141 = some [Leaf.int, Leaf.int, Leaf.int, Leaf.int, Leaf.int, Leaf.int] := by kernel_rfl
@[go_sem] theorem dA6 (o) : R9 Tryz.prog o 149 .nil = some (.int .i64 0) := aJ6 (e := 108) (by kernel_rfl) o
@[go_sem] theorem dA7 (o k g off n) : R9 Tryz.prog o 149 (.ref k g off n) = some (.int .i64 n) := ad1 (e := 108) (by kernel_rfl) o k g off n
@[go_sem] theorem dA8 (k g off n i) : n9 Tryz.prog 149 (.ref k g off n) i = if 0 ≤ i ∧ i < (n : Int) then some (.ptr k g (off + i.toNat * 2)) else none := Q7 (s := 2) (by kernel_rfl) k g off n i
@[go_sem] theorem dA9 (k g off n lo hi) : ab9 Tryz.prog 149 (.ref k g off n) lo hi = if 0 ≤ lo.getD 0 ∧ lo.getD 0 ≤ hi.getD n ∧ hi.getD n ≤ n then some (.ref k g (off + (lo.getD 0).toNat * 2) ((hi.getD n).toNat - (lo.getD 0).toNat)) else none := bF0 (s := 1) (by kernel_rfl) k g off n lo hi
@[go_sem] theorem dR0 (tg n ps o nx) : s9 Tryz.prog tg 149 n ps ⟨o, nx⟩ = if n * 2 ≤ 16777216 then (C6 (fun i => some (i * 2, 2)) (rep [AV.int .i64 0, AV.int .i64 0] n) ps).map (fun cs => (.ref tg tg 0 n, ⟨upd o tg (.row ⟨108, 2, tg, false, true, cs⟩), nx⟩)) else none := al4 (e := 108) (s := 1) (z := [AV.int .i64 0, AV.int .i64 0]) (by kernel_rfl) (by kernel_rfl) (by kernel_rfl) rfl tg n ps o nx
@[go_sem] theorem dR1 (tg x y o nx) : B9 Tryz.prog tg 149 149 x y ⟨o, nx⟩ = (I5 o y).bind fun q => aU9 tg 108 2 16 x q.1 q.2 o nx := av3 (e := 108) (s := 1) (b := 15) (z := [AV.int .i64 0, AV.int .i64 0]) (by kernel_rfl) (by kernel_rfl) (by kernel_rfl) (by kernel_rfl) rfl (by kernel_rfl) tg x y o nx
@[go_sem] theorem ea5 : u4 Tryz.prog 155 = some 2 := by kernel_rfl
@[go_sem] theorem ea6 : O7 Tryz.prog 155 = some true := by kernel_rfl
@[go_sem] theorem ea7 : N3 Tryz.prog 155 = some [AV.int .i64 0, AV.nil] := by kernel_rfl
@[go_sem] theorem dB0 (k g off) : l7 Tryz.prog 155 0 (.ptr k g off) = some (.ptr k g (off + 0)) := B3 (s := 0) (ft := 3) (by kernel_rfl) (by kernel_rfl) k g off
@[go_sem] theorem dB1 (k g off) : l7 Tryz.prog 155 1 (.ptr k g off) = some (.ptr k g (off + 1)) := B3 (s := 0) (ft := 113) (by kernel_rfl) (by kernel_rfl) k g off
@[go_sem] theorem dR2 (xs) : H4 Tryz.prog 155 xs = (C6 (fun i => ([(0, 1), (1, 1)] : List (Nat × Nat))[i]?) [AV.int .i64 0, AV.nil] xs).map .agg := by kernel_rfl
@[go_sem] theorem ea8 : u4 Tryz.prog 164 = some 2 := by kernel_rfl
@[go_sem] theorem ea9 : O7 Tryz.prog 164 = some true := by kernel_rfl
@[go_sem] theorem eb0 : N3 Tryz.prog 164 = some [AV.int .i64 0, AV.int .i64 0] := by kernel_rfl
@[go_sem] theorem dB2 (k g off i) : n9 Tryz.prog 164 (.ptr k g off) i = if 0 ≤ i ∧ i < 2 then some (.ptr k g (off + i.toNat * 1)) else none := bd8 (n := 2) (e := 3) (s := 1) (by kernel_rfl) (by kernel_rfl) k g off i
@[go_sem] theorem dR3 (xs) : H4 Tryz.prog 164 xs = (C6 (fun i => some (i * 1, 1)) [AV.int .i64 0, AV.int .i64 0] xs).map .agg := aN6 (n := 2) (e := 3) (by kernel_rfl) (by kernel_rfl) (by kernel_rfl) xs
@[go_sem] theorem dR4 (cs i) : Y4 Tryz.prog 168 (.agg cs) i = if 0 ≤ i ∧ i < 2 then W8 Tryz.prog 5 (cs.drop (i.toNat * 1)) else none := bE9 (n := 2) (e := 5) (s := 1) (by kernel_rfl) (by kernel_rfl) cs i
@[go_sem] theorem dR5 (xs) : H4 Tryz.prog 168 xs = (C6 (fun i => some (i * 1, 1)) [AV.int .u8 0, AV.int .u8 0] xs).map .agg := aN6 (n := 2) (e := 5) (by kernel_rfl) (by kernel_rfl) (by kernel_rfl) xs
@[go_sem] theorem eh3 (tg k n o nx) : m5 Tryz.prog tg 2 3 (.int k n) ⟨o, nx⟩ = some (.int .i64 (IntKind.wrap .i64 n), ⟨o, nx⟩) := A7 (td := .int .i64) (by kernel_rfl) (by kernel_rfl) tg k n o nx
@[go_sem] theorem eh4 (tg k n o nx) : m5 Tryz.prog tg 2 5 (.int k n) ⟨o, nx⟩ = some (.int .u8 (IntKind.wrap .u8 n), ⟨o, nx⟩) := A7 (td := .int .i64) (by kernel_rfl) (by kernel_rfl) tg k n o nx
@[go_sem] theorem eb1 (tg k n o nx) : m5 Tryz.prog tg 2 38 (.int k n) ⟨o, nx⟩ = some (.int .i64 (IntKind.wrap .i64 n), ⟨o, nx⟩) := A7 (td := .int .i64) (by kernel_rfl) (by kernel_rfl) tg k n o nx
@[go_sem] theorem eb2 (tg k n o nx) : m5 Tryz.prog tg 2 86 (.int k n) ⟨o, nx⟩ = some (.int .u64 (IntKind.wrap .u64 n), ⟨o, nx⟩) := A7 (td := .int .i64) (by kernel_rfl) (by kernel_rfl) tg k n o nx
@[go_sem] theorem dR6 (tg k n o nx) : m5 Tryz.prog tg 2 170 (.int k n) ⟨o, nx⟩ = some (.int .u64 (IntKind.wrap .u64 n), ⟨o, nx⟩) := A7 (td := .int .i64) (by kernel_rfl) (by kernel_rfl) tg k n o nx
@[go_sem] theorem dR7 (tg k n o nx) : m5 Tryz.prog tg 2 177 (.int k n) ⟨o, nx⟩ = some (.int .u32 (IntKind.wrap .u32 n), ⟨o, nx⟩) := A7 (td := .int .i64) (by kernel_rfl) (by kernel_rfl) tg k n o nx
@[go_sem] theorem eh5 (tg k n o nx) : m5 Tryz.prog tg 3 2 (.int k n) ⟨o, nx⟩ = some (.int .i64 (IntKind.wrap .i64 n), ⟨o, nx⟩) := A7 (td := .int .i64) (by kernel_rfl) (by kernel_rfl) tg k n o nx
@[go_sem] theorem eh6 (tg k n o nx) : m5 Tryz.prog tg 3 5 (.int k n) ⟨o, nx⟩ = some (.int .u8 (IntKind.wrap .u8 n), ⟨o, nx⟩) := A7 (td := .int .i64) (by kernel_rfl) (by kernel_rfl) tg k n o nx
@[go_sem] theorem eb3 (tg k n o nx) : m5 Tryz.prog tg 3 38 (.int k n) ⟨o, nx⟩ = some (.int .i64 (IntKind.wrap .i64 n), ⟨o, nx⟩) := A7 (td := .int .i64) (by kernel_rfl) (by kernel_rfl) tg k n o nx
@[go_sem] theorem eb4 (tg k n o nx) : m5 Tryz.prog tg 3 86 (.int k n) ⟨o, nx⟩ = some (.int .u64 (IntKind.wrap .u64 n), ⟨o, nx⟩) := A7 (td := .int .i64) (by kernel_rfl) (by kernel_rfl) tg k n o nx
@[go_sem] theorem dR8 (tg k n o nx) : m5 Tryz.prog tg 3 170 (.int k n) ⟨o, nx⟩ = some (.int .u64 (IntKind.wrap .u64 n), ⟨o, nx⟩) := A7 (td := .int .i64) (by kernel_rfl) (by kernel_rfl) tg k n o nx
@[go_sem] theorem dR9 (tg k n o nx) : m5 Tryz.prog tg 3 177 (.int k n) ⟨o, nx⟩ = some (.int .u32 (IntKind.wrap .u32 n), ⟨o, nx⟩) := A7 (td := .int .i64) (by kernel_rfl) (by kernel_rfl) tg k n o nx
@[go_sem] theorem eh7 (tg k n o nx) : m5 Tryz.prog tg 5 2 (.int k n) ⟨o, nx⟩ = some (.int .i64 (IntKind.wrap .i64 n), ⟨o, nx⟩) := A7 (td := .int .u8) (by kernel_rfl) (by kernel_rfl) tg k n o nx
@[go_sem] theorem eh8 (tg k n o nx) : m5 Tryz.prog tg 5 3 (.int k n) ⟨o, nx⟩ = some (.int .i64 (IntKind.wrap .i64 n), ⟨o, nx⟩) := A7 (td := .int .u8) (by kernel_rfl) (by kernel_rfl) tg k n o nx
@[go_sem] theorem eb5 (tg k n o nx) : m5 Tryz.prog tg 5 38 (.int k n) ⟨o, nx⟩ = some (.int .i64 (IntKind.wrap .i64 n), ⟨o, nx⟩) := A7 (td := .int .u8) (by kernel_rfl) (by kernel_rfl) tg k n o nx
@[go_sem] theorem eb6 (tg k n o nx) : m5 Tryz.prog tg 5 86 (.int k n) ⟨o, nx⟩ = some (.int .u64 (IntKind.wrap .u64 n), ⟨o, nx⟩) := A7 (td := .int .u8) (by kernel_rfl) (by kernel_rfl) tg k n o nx
@[go_sem] theorem dS0 (tg k n o nx) : m5 Tryz.prog tg 5 170 (.int k n) ⟨o, nx⟩ = some (.int .u64 (IntKind.wrap .u64 n), ⟨o, nx⟩) := A7 (td := .int .u8) (by kernel_rfl) (by kernel_rfl) tg k n o nx
@[go_sem] theorem dS1 (tg k n o nx) : m5 Tryz.prog tg 5 177 (.int k n) ⟨o, nx⟩ = some (.int .u32 (IntKind.wrap .u32 n), ⟨o, nx⟩) := A7 (td := .int .u8) (by kernel_rfl) (by kernel_rfl) tg k n o nx
@[go_sem] theorem eb7 (tg k n o nx) : m5 Tryz.prog tg 38 2 (.int k n) ⟨o, nx⟩ = some (.int .i64 (IntKind.wrap .i64 n), ⟨o, nx⟩) := A7 (td := .int .i64) (by kernel_rfl) (by kernel_rfl) tg k n o nx
@[go_sem] theorem eb8 (tg k n o nx) : m5 Tryz.prog tg 38 3 (.int k n) ⟨o, nx⟩ = some (.int .i64 (IntKind.wrap .i64 n), ⟨o, nx⟩) := A7 (td := .int .i64) (by kernel_rfl) (by kernel_rfl) tg k n o nx
@[go_sem] theorem eb9 (tg k n o nx) : m5 Tryz.prog tg 38 5 (.int k n) ⟨o, nx⟩ = some (.int .u8 (IntKind.wrap .u8 n), ⟨o, nx⟩) := A7 (td := .int .i64) (by kernel_rfl) (by kernel_rfl) tg k n o nx
@[go_sem] theorem dS2 (tg k n o nx) : m5 Tryz.prog tg 38 86 (.int k n) ⟨o, nx⟩ = some (.int .u64 (IntKind.wrap .u64 n), ⟨o, nx⟩) := A7 (td := .int .i64) (by kernel_rfl) (by kernel_rfl) tg k n o nx
@[go_sem] theorem dB3 (tg k n o nx) : m5 Tryz.prog tg 38 170 (.int k n) ⟨o, nx⟩ = some (.int .u64 (IntKind.wrap .u64 n), ⟨o, nx⟩) := A7 (td := .int .i64) (by kernel_rfl) (by kernel_rfl) tg k n o nx
@[go_sem] theorem dB4 (tg k n o nx) : m5 Tryz.prog tg 38 177 (.int k n) ⟨o, nx⟩ = some (.int .u32 (IntKind.wrap .u32 n), ⟨o, nx⟩) := A7 (td := .int .i64) (by kernel_rfl) (by kernel_rfl) tg k n o nx
@[go_sem] theorem ec0 (tg k n o nx) : m5 Tryz.prog tg 86 2 (.int k n) ⟨o, nx⟩ = some (.int .i64 (IntKind.wrap .i64 n), ⟨o, nx⟩) := A7 (td := .int .u64) (by kernel_rfl) (by kernel_rfl) tg k n o nx
@[go_sem] theorem ec1 (tg k n o nx) : m5 Tryz.prog tg 86 3 (.int k n) ⟨o, nx⟩ = some (.int .i64 (IntKind.wrap .i64 n), ⟨o, nx⟩) := A7 (td := .int .u64) (by kernel_rfl) (by kernel_rfl) tg k n o nx
@[go_sem] theorem ec2 (tg k n o nx) : m5 Tryz.prog tg 86 5 (.int k n) ⟨o, nx⟩ = some (.int .u8 (IntKind.wrap .u8 n), ⟨o, nx⟩) := A7 (td := .int .u64) (by kernel_rfl) (by kernel_rfl) tg k n o nx
@[go_sem] theorem dS3 (tg k n o nx) : m5 Tryz.prog tg 86 38 (.int k n) ⟨o, nx⟩ = some (.int .i64 (IntKind.wrap .i64 n), ⟨o, nx⟩) := A7 (td := .int .u64) (by kernel_rfl) (by kernel_rfl) tg k n o nx
@[go_sem] theorem dB5 (tg k n o nx) : m5 Tryz.prog tg 86 170 (.int k n) ⟨o, nx⟩ = some (.int .u64 (IntKind.wrap .u64 n), ⟨o, nx⟩) := A7 (td := .int .u64) (by kernel_rfl) (by kernel_rfl) tg k n o nx
@[go_sem] theorem dB6 (tg k n o nx) : m5 Tryz.prog tg 86 177 (.int k n) ⟨o, nx⟩ = some (.int .u32 (IntKind.wrap .u32 n), ⟨o, nx⟩) := A7 (td := .int .u64) (by kernel_rfl) (by kernel_rfl) tg k n o nx
@[go_sem] theorem dS4 (tg k n o nx) : m5 Tryz.prog tg 170 2 (.int k n) ⟨o, nx⟩ = some (.int .i64 (IntKind.wrap .i64 n), ⟨o, nx⟩) := A7 (td := .int .u64) (by kernel_rfl) (by kernel_rfl) tg k n o nx
@[go_sem] theorem dS5 (tg k n o nx) : m5 Tryz.prog tg 170 3 (.int k n) ⟨o, nx⟩ = some (.int .i64 (IntKind.wrap .i64 n), ⟨o, nx⟩) := A7 (td := .int .u64) (by kernel_rfl) (by kernel_rfl) tg k n o nx
@[go_sem] theorem dS6 (tg k n o nx) : m5 Tryz.prog tg 170 5 (.int k n) ⟨o, nx⟩ = some (.int .u8 (IntKind.wrap .u8 n), ⟨o, nx⟩) := A7 (td := .int .u64) (by kernel_rfl) (by kernel_rfl) tg k n o nx
@[go_sem] theorem dB7 (tg k n o nx) : m5 Tryz.prog tg 170 38 (.int k n) ⟨o, nx⟩ = some (.int .i64 (IntKind.wrap .i64 n), ⟨o, nx⟩) := A7 (td := .int .u64) (by kernel_rfl) (by kernel_rfl) tg k n o nx
@[go_sem] theorem dB8 (tg k n o nx) : m5 Tryz.prog tg 170 86 (.int k n) ⟨o, nx⟩ = some (.int .u64 (IntKind.wrap .u64 n), ⟨o, nx⟩) := A7 (td := .int .u64) (by kernel_rfl) (by kernel_rfl) tg k n o nx
@[go_sem] theorem dp8 (tg k n o nx) : m5 Tryz.prog tg 170 177 (.int k n) ⟨o, nx⟩ = some (.int .u32 (IntKind.wrap .u32 n), ⟨o, nx⟩) := A7 (td := .int .u64) (by kernel_rfl) (by kernel_rfl) tg k n o nx
@[go_sem] theorem dS7 (tg k n o nx) : m5 Tryz.prog tg 177 2 (.int k n) ⟨o, nx⟩ = some (.int .i64 (IntKind.wrap .i64 n), ⟨o, nx⟩) := A7 (td := .int .u32) (by kernel_rfl) (by kernel_rfl) tg k n o nx
@[go_sem] theorem dS8 (tg k n o nx) : m5 Tryz.prog tg 177 3 (.int k n) ⟨o, nx⟩ = some (.int .i64 (IntKind.wrap .i64 n), ⟨o, nx⟩) := A7 (td := .int .u32) (by kernel_rfl) (by kernel_rfl) tg k n o nx
@[go_sem] theorem dS9 (tg k n o nx) : m5 Tryz.prog tg 177 5 (.int k n) ⟨o, nx⟩ = some (.int .u8 (IntKind.wrap .u8 n), ⟨o, nx⟩) := A7 (td := .int .u32) (by kernel_rfl) (by kernel_rfl) tg k n o nx
@[go_sem] theorem dB9 (tg k n o nx) : m5 Tryz.prog tg 177 38 (.int k n) ⟨o, nx⟩ = some (.int .i64 (IntKind.wrap .i64 n), ⟨o, nx⟩) := A7 (td := .int .u32) (by kernel_rfl) (by kernel_rfl) tg k n o nx
@[go_sem] theorem dC0 (tg k n o nx) : m5 Tryz.prog tg 177 86 (.int k n) ⟨o, nx⟩ = some (.int .u64 (IntKind.wrap .u64 n), ⟨o, nx⟩) := A7 (td := .int .u32) (by kernel_rfl) (by kernel_rfl) tg k n o nx
@[go_sem] theorem dp9 (tg k n o nx) : m5 Tryz.prog tg 177 170 (.int k n) ⟨o, nx⟩ = some (.int .u64 (IntKind.wrap .u64 n), ⟨o, nx⟩) := A7 (td := .int .u32) (by kernel_rfl) (by kernel_rfl) tg k n o nx
def md0 (f : FuncId) : Mode := if f ∈ [5,18,39,29,14,30,13,11,101,4,7,79,91,97,100,104,56,62,88,8,15,16,95,33,34,68,46,47,71,72,70,90,20,21,83,67,69,35] then .ext true else if f ∈ [6,19,40,12,23,26,54,80,81,31,32,64,65,66,60,61,87,25,22,24,27,9,17,28,63,89,37,38,44,50] then .ext false else if f ∈ [58,102,103,98,99,92,82,57] then .raw true else .raw false
@[go_sem] theorem M5 : md0 5 = .ext true := rfl
@[go_sem] theorem M6 : md0 6 = .ext false := rfl
@[go_sem] theorem M18 : md0 18 = .ext true := rfl
@[go_sem] theorem M39 : md0 39 = .ext true := rfl
@[go_sem] theorem M19 : md0 19 = .ext false := rfl
@[go_sem] theorem M40 : md0 40 = .ext false := rfl
@[go_sem] theorem M12 : md0 12 = .ext false := rfl
@[go_sem] theorem M29 : md0 29 = .ext true := rfl
@[go_sem] theorem M23 : md0 23 = .ext false := rfl
@[go_sem] theorem M26 : md0 26 = .ext false := rfl
@[go_sem] theorem M54 : md0 54 = .ext false := rfl
@[go_sem] theorem M80 : md0 80 = .ext false := rfl
@[go_sem] theorem M81 : md0 81 = .ext false := rfl
@[go_sem] theorem M14 : md0 14 = .ext true := rfl
@[go_sem] theorem M31 : md0 31 = .ext false := rfl
@[go_sem] theorem M32 : md0 32 = .ext false := rfl
@[go_sem] theorem M64 : md0 64 = .ext false := rfl
@[go_sem] theorem M65 : md0 65 = .ext false := rfl
@[go_sem] theorem M66 : md0 66 = .ext false := rfl
@[go_sem] theorem M60 : md0 60 = .ext false := rfl
@[go_sem] theorem M61 : md0 61 = .ext false := rfl
@[go_sem] theorem M87 : md0 87 = .ext false := rfl
@[go_sem] theorem M30 : md0 30 = .ext true := rfl
@[go_sem] theorem M13 : md0 13 = .ext true := rfl
@[go_sem] theorem M11 : md0 11 = .ext true := rfl
@[go_sem] theorem M25 : md0 25 = .ext false := rfl
@[go_sem] theorem eh9 : md0 101 = .ext true := rfl
@[go_sem] theorem M51 : md0 51 = .raw false := rfl
@[go_sem] theorem M74 : md0 74 = .raw false := rfl
@[go_sem] theorem M75 : md0 75 = .raw false := rfl
@[go_sem] theorem M76 : md0 76 = .raw false := rfl
@[go_sem] theorem M52 : md0 52 = .raw false := rfl
@[go_sem] theorem M77 : md0 77 = .raw false := rfl
@[go_sem] theorem M78 : md0 78 = .raw false := rfl
@[go_sem] theorem M59 : md0 59 = .raw false := rfl
@[go_sem] theorem M84 : md0 84 = .raw false := rfl
@[go_sem] theorem M85 : md0 85 = .raw false := rfl
@[go_sem] theorem M86 : md0 86 = .raw false := rfl
@[go_sem] theorem M93 : md0 93 = .raw false := rfl
@[go_sem] theorem M94 : md0 94 = .raw false := rfl
@[go_sem] theorem M4 : md0 4 = .ext true := rfl
@[go_sem] theorem M22 : md0 22 = .ext false := rfl
@[go_sem] theorem M7 : md0 7 = .ext true := rfl
@[go_sem] theorem M24 : md0 24 = .ext false := rfl
@[go_sem] theorem M27 : md0 27 = .ext false := rfl
@[go_sem] theorem M79 : md0 79 = .ext true := rfl
@[go_sem] theorem M91 : md0 91 = .ext true := rfl
@[go_sem] theorem M97 : md0 97 = .ext true := rfl
@[go_sem] theorem ei0 : md0 100 = .ext true := rfl
@[go_sem] theorem ei1 : md0 104 = .ext true := rfl
@[go_sem] theorem M53 : md0 53 = .raw false := rfl
@[go_sem] theorem M55 : md0 55 = .raw false := rfl
@[go_sem] theorem M56 : md0 56 = .ext true := rfl
@[go_sem] theorem M62 : md0 62 = .ext true := rfl
@[go_sem] theorem M88 : md0 88 = .ext true := rfl
@[go_sem] theorem M8 : md0 8 = .ext true := rfl
@[go_sem] theorem M9 : md0 9 = .ext false := rfl
@[go_sem] theorem M17 : md0 17 = .ext false := rfl
@[go_sem] theorem M15 : md0 15 = .ext true := rfl
@[go_sem] theorem M16 : md0 16 = .ext true := rfl
@[go_sem] theorem M28 : md0 28 = .ext false := rfl
@[go_sem] theorem M63 : md0 63 = .ext false := rfl
@[go_sem] theorem M89 : md0 89 = .ext false := rfl
@[go_sem] theorem M95 : md0 95 = .ext true := rfl
@[go_sem] theorem M37 : md0 37 = .ext false := rfl
@[go_sem] theorem M38 : md0 38 = .ext false := rfl
@[go_sem] theorem M33 : md0 33 = .ext true := rfl
@[go_sem] theorem M34 : md0 34 = .ext true := rfl
@[go_sem] theorem M68 : md0 68 = .ext true := rfl
@[go_sem] theorem M44 : md0 44 = .ext false := rfl
@[go_sem] theorem M46 : md0 46 = .ext true := rfl
@[go_sem] theorem M50 : md0 50 = .ext false := rfl
@[go_sem] theorem M47 : md0 47 = .ext true := rfl
@[go_sem] theorem M71 : md0 71 = .ext true := rfl
@[go_sem] theorem M72 : md0 72 = .ext true := rfl
@[go_sem] theorem M70 : md0 70 = .ext true := rfl
@[go_sem] theorem M42 : md0 42 = .raw false := rfl
@[go_sem] theorem M43 : md0 43 = .raw false := rfl
@[go_sem] theorem M49 : md0 49 = .raw false := rfl
@[go_sem] theorem M73 : md0 73 = .raw false := rfl
@[go_sem] theorem M45 : md0 45 = .raw false := rfl
@[go_sem] theorem M48 : md0 48 = .raw false := rfl
@[go_sem] theorem M41 : md0 41 = .raw false := rfl
@[go_sem] theorem M90 : md0 90 = .ext true := rfl
@[go_sem] theorem M20 : md0 20 = .ext true := rfl
@[go_sem] theorem M21 : md0 21 = .ext true := rfl
@[go_sem] theorem M83 : md0 83 = .ext true := rfl
@[go_sem] theorem M58 : md0 58 = .raw true := rfl
@[go_sem] theorem ei2 : md0 102 = .raw true := rfl
@[go_sem] theorem ei3 : md0 103 = .raw true := rfl
@[go_sem] theorem M98 : md0 98 = .raw true := rfl
@[go_sem] theorem M99 : md0 99 = .raw true := rfl
@[go_sem] theorem M92 : md0 92 = .raw true := rfl
@[go_sem] theorem M82 : md0 82 = .raw true := rfl
@[go_sem] theorem M57 : md0 57 = .raw true := rfl
@[go_sem] theorem M36 : md0 36 = .raw false := rfl
@[go_sem] theorem M67 : md0 67 = .ext true := rfl
@[go_sem] theorem M69 : md0 69 = .ext true := rfl
@[go_sem] theorem M35 : md0 35 = .ext true := rfl
end Go.Proofs.YtpmjpogcaglphaaGreatDoor.A
