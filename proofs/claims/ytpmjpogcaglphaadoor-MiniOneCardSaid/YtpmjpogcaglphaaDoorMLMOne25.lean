/- law7.Make: machines of one way, of numbers. -/
import Derived.Test.YtpmjpogcaglphaaDoorMLMOne7
set_option linter.unusedVariables false
set_option linter.unusedSimpArgs false
set_option linter.unnecessarySimpa false
namespace Go.Proofs.YtpmjpogcaglphaaDoor.A
open Go
set_option maxRecDepth 20000
def bP1 (size : Int) : Nat := (1 + size % 9).toNat
def dB1 (n : Nat) (ns : List Int) (acc : Int) (k : Nat) : Int := if k < ns.length then ns.getD k 0 % n else IntKind.i64.wrap ((k / 5 : Nat) + IntKind.i64.wrap ((k % 5 : Nat) * acc)) % n
def db6 (n : Nat) (ns : List Int) (acc : Int) (i : Nat) : List Int := (List.range (i * 5)).map (dB1 n ns acc)
def dB2 (acc : Int) (i : Nat) : Bool := decide (acc.fdiv (2 ^ min i 64) % 2 = 1)
def db7 (acc : Int) (i : Nat) : List Bool := (List.range i).map (dB2 acc)
theorem HS.of {e sz D o nx j g n cs} (hj : j < nx) (h : o (j, D) = some (.row ⟨e, sz, g, false, true, cs⟩)) (hl : cs.length = n * sz) : HS e sz D o nx (.ref (j, D) g 0 n) n cs := .inr ⟨j, g, rfl, hj, h, hl⟩
end Go.Proofs.YtpmjpogcaglphaaDoor.A
