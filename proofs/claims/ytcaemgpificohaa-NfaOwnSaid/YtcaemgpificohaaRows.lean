/-
  NARROWER THAN 'FOR EVERY INPUT', by the rows' own cells (each row's printed sentence says how): NfaBuilds: loops · NfaTakes: loops.
  DERIVED. THE GIVEN ROWS OF THIS SEAT. 9 by the template 'for every input the law returns true; each argument reads behind the call as it read before'; 0 by the template 'total and deterministic' (their statements: YtcaemgpificohaaTotals.lean).
  GIVEN WITH THE SEED: the statements are not yours to turn. If you find one false, say at which input.
  Laid BY PROGRAM, IN A SANDBOX (cutbox-rows.mjs): the forced cells as the released guide's own fill.sh prints them over the translation b4a9143d60cd42fd… (all of the seat's roots in one cut). By AI agents, Wed Nov 11 2026. No macro, syntax, notation, axiom, sorry.
-/
import Derived.Test.YtcaemgpificohaaChecked
import GoSem.Claim
import GoSem.ClaimJoined
import GoSem.ClaimMapViews
import Derived.JoinedTies
import Derived.KernelRfl
namespace Go.Proofs.Ytcaemgpificohaa
/- THE CELL 'sum', in the pinned program and in every row, IS THE sha256 OF THE DUMP (.gsa) THAT YtcaemgpificohaaProg.lean LOADS. Nothing in Lean hashes anything: it is a label: what it is worth is what the hold of that sum in a sandbox is worth. -/
noncomputable def Try.pinned : Pinned := { name := "ytcaemgpificohaa", sum := "b4a9143d60cd42fd37325bc61af1c6b82ffe927da3f218836a97ff8f808e6672", checked := Try.checked }
namespace Rows
def none {H : Type} : Left H := { results := [], args := [] }

/-- 'milestonelaw6.NfaBuilds': WHATEVER THE INPUT: true; the input reads as it did. -/
def nfaBuildsSpec : ChangeSpec := { name := "nfaBuilds", fn := fun _ => fun
  | [d] => { results := [.lit (.bool true)], args := [d] }
  | _ => none }
def nfaBuildsRow : OpenClaim := { program := "ytcaemgpificohaa", sum := "b4a9143d60cd42fd37325bc61af1c6b82ffe927da3f218836a97ff8f808e6672", func := "milestone/milestonelaw6.NfaBuilds", spec := "nfaBuilds", unfollowed := true, recurses := true, loops := true, apart := false }
def NfaBuildsSaid : Prop := nfaBuildsRow.holds Try.pinned (OpenSpec.ofChange nfaBuildsSpec)

/-- ITS FALSE NEIGHBOUR: 'it returns false'. Refute it at one input. -/
def nfaBuildsWrong : ChangeSpec := { name := "nfaBuilds", fn := fun _ => fun
  | [d] => { results := [.lit (.bool false)], args := [d] }
  | _ => none }
def NfaBuildsWrongFalsely : Prop := nfaBuildsRow.holds Try.pinned (OpenSpec.ofChange nfaBuildsWrong)

/-- 'milestonelaw6.NfaTakes': WHATEVER THE INPUT: true; the input reads as it did. -/
def nfaTakesSpec : ChangeSpec := { name := "nfaTakes", fn := fun _ => fun
  | [d1, d2, d3] => { results := [.lit (.bool true)], args := [d1, d2, d3] }
  | _ => none }
def nfaTakesRow : OpenClaim := { program := "ytcaemgpificohaa", sum := "b4a9143d60cd42fd37325bc61af1c6b82ffe927da3f218836a97ff8f808e6672", func := "milestone/milestonelaw6.NfaTakes", spec := "nfaTakes", unfollowed := true, recurses := true, loops := true, apart := false }
def NfaTakesSaid : Prop := nfaTakesRow.holds Try.pinned (OpenSpec.ofChange nfaTakesSpec)

/-- ITS FALSE NEIGHBOUR: 'it returns false'. Refute it at one input. -/
def nfaTakesWrong : ChangeSpec := { name := "nfaTakes", fn := fun _ => fun
  | [d1, d2, d3] => { results := [.lit (.bool false)], args := [d1, d2, d3] }
  | _ => none }
def NfaTakesWrongFalsely : Prop := nfaTakesRow.holds Try.pinned (OpenSpec.ofChange nfaTakesWrong)

/-- 'milestonelaw6.NfaChecks': WHATEVER THE INPUT: true; the input reads as it did. -/
def nfaChecksSpec : ChangeSpec := { name := "nfaChecks", fn := fun _ => fun
  | [d1, d2, d3, d4, d5, d6] => { results := [.lit (.bool true)], args := [d1, d2, d3, d4, d5, d6] }
  | _ => none }
def nfaChecksRow : OpenClaim := { program := "ytcaemgpificohaa", sum := "b4a9143d60cd42fd37325bc61af1c6b82ffe927da3f218836a97ff8f808e6672", func := "milestone/milestonelaw6.NfaChecks", spec := "nfaChecks", unfollowed := true, recurses := true, apart := false }
def NfaChecksSaid : Prop := nfaChecksRow.holds Try.pinned (OpenSpec.ofChange nfaChecksSpec)

/-- ITS FALSE NEIGHBOUR: 'it returns false'. Refute it at one input. -/
def nfaChecksWrong : ChangeSpec := { name := "nfaChecks", fn := fun _ => fun
  | [d1, d2, d3, d4, d5, d6] => { results := [.lit (.bool false)], args := [d1, d2, d3, d4, d5, d6] }
  | _ => none }
def NfaChecksWrongFalsely : Prop := nfaChecksRow.holds Try.pinned (OpenSpec.ofChange nfaChecksWrong)

/-- 'milestonelaw6.NfaRuns': WHATEVER THE INPUT: true; the input reads as it did. -/
def nfaRunsSpec : ChangeSpec := { name := "nfaRuns", fn := fun _ => fun
  | [d1, d2, d3, d4, d5, d6] => { results := [.lit (.bool true)], args := [d1, d2, d3, d4, d5, d6] }
  | _ => none }
def nfaRunsRow : OpenClaim := { program := "ytcaemgpificohaa", sum := "b4a9143d60cd42fd37325bc61af1c6b82ffe927da3f218836a97ff8f808e6672", func := "milestone/milestonelaw6.NfaRuns", spec := "nfaRuns", unfollowed := true, recurses := true, apart := false }
def NfaRunsSaid : Prop := nfaRunsRow.holds Try.pinned (OpenSpec.ofChange nfaRunsSpec)

/-- ITS FALSE NEIGHBOUR: 'it returns false'. Refute it at one input. -/
def nfaRunsWrong : ChangeSpec := { name := "nfaRuns", fn := fun _ => fun
  | [d1, d2, d3, d4, d5, d6] => { results := [.lit (.bool false)], args := [d1, d2, d3, d4, d5, d6] }
  | _ => none }
def NfaRunsWrongFalsely : Prop := nfaRunsRow.holds Try.pinned (OpenSpec.ofChange nfaRunsWrong)

/-- 'milestonelaw6.NfaCloses': WHATEVER THE INPUT: true; the input reads as it did. -/
def nfaClosesSpec : ChangeSpec := { name := "nfaCloses", fn := fun _ => fun
  | [d1, d2, d3, d4] => { results := [.lit (.bool true)], args := [d1, d2, d3, d4] }
  | _ => none }
def nfaClosesRow : OpenClaim := { program := "ytcaemgpificohaa", sum := "b4a9143d60cd42fd37325bc61af1c6b82ffe927da3f218836a97ff8f808e6672", func := "milestone/milestonelaw6.NfaCloses", spec := "nfaCloses", unfollowed := true, recurses := true, apart := false }
def NfaClosesSaid : Prop := nfaClosesRow.holds Try.pinned (OpenSpec.ofChange nfaClosesSpec)

/-- ITS FALSE NEIGHBOUR: 'it returns false'. Refute it at one input. -/
def nfaClosesWrong : ChangeSpec := { name := "nfaCloses", fn := fun _ => fun
  | [d1, d2, d3, d4] => { results := [.lit (.bool false)], args := [d1, d2, d3, d4] }
  | _ => none }
def NfaClosesWrongFalsely : Prop := nfaClosesRow.holds Try.pinned (OpenSpec.ofChange nfaClosesWrong)

/-- 'milestonelaw6.NfaLarge': WHATEVER THE INPUT: true; the input reads as it did. -/
def nfaLargeSpec : ChangeSpec := { name := "nfaLarge", fn := fun _ => fun
  | [d1, d2, d3] => { results := [.lit (.bool true)], args := [d1, d2, d3] }
  | _ => none }
def nfaLargeRow : OpenClaim := { program := "ytcaemgpificohaa", sum := "b4a9143d60cd42fd37325bc61af1c6b82ffe927da3f218836a97ff8f808e6672", func := "milestone/milestonelaw6.NfaLarge", spec := "nfaLarge", unfollowed := true, recurses := true, apart := false }
def NfaLargeSaid : Prop := nfaLargeRow.holds Try.pinned (OpenSpec.ofChange nfaLargeSpec)

/-- ITS FALSE NEIGHBOUR: 'it returns false'. Refute it at one input. -/
def nfaLargeWrong : ChangeSpec := { name := "nfaLarge", fn := fun _ => fun
  | [d1, d2, d3] => { results := [.lit (.bool false)], args := [d1, d2, d3] }
  | _ => none }
def NfaLargeWrongFalsely : Prop := nfaLargeRow.holds Try.pinned (OpenSpec.ofChange nfaLargeWrong)

/-- 'milestonelaw6.NfaKnown': WHATEVER THE INPUT: true; the input reads as it did. -/
def nfaKnownSpec : ChangeSpec := { name := "nfaKnown", fn := fun _ => fun
  | [d] => { results := [.lit (.bool true)], args := [d] }
  | _ => none }
def nfaKnownRow : OpenClaim := { program := "ytcaemgpificohaa", sum := "b4a9143d60cd42fd37325bc61af1c6b82ffe927da3f218836a97ff8f808e6672", func := "milestone/milestonelaw6.NfaKnown", spec := "nfaKnown", unfollowed := true, recurses := true, apart := false }
def NfaKnownSaid : Prop := nfaKnownRow.holds Try.pinned (OpenSpec.ofChange nfaKnownSpec)

/-- ITS FALSE NEIGHBOUR: 'it returns false'. Refute it at one input. -/
def nfaKnownWrong : ChangeSpec := { name := "nfaKnown", fn := fun _ => fun
  | [d] => { results := [.lit (.bool false)], args := [d] }
  | _ => none }
def NfaKnownWrongFalsely : Prop := nfaKnownRow.holds Try.pinned (OpenSpec.ofChange nfaKnownWrong)

/-- 'milestonelaw6.NfaGrows': WHATEVER THE INPUT: true; the input reads as it did. -/
def nfaGrowsSpec : ChangeSpec := { name := "nfaGrows", fn := fun _ => fun
  | [d1, d2, d3, d4, d5, d6] => { results := [.lit (.bool true)], args := [d1, d2, d3, d4, d5, d6] }
  | _ => none }
def nfaGrowsRow : OpenClaim := { program := "ytcaemgpificohaa", sum := "b4a9143d60cd42fd37325bc61af1c6b82ffe927da3f218836a97ff8f808e6672", func := "milestone/milestonelaw6.NfaGrows", spec := "nfaGrows", unfollowed := true, recurses := true, apart := false }
def NfaGrowsSaid : Prop := nfaGrowsRow.holds Try.pinned (OpenSpec.ofChange nfaGrowsSpec)

/-- ITS FALSE NEIGHBOUR: 'it returns false'. Refute it at one input. -/
def nfaGrowsWrong : ChangeSpec := { name := "nfaGrows", fn := fun _ => fun
  | [d1, d2, d3, d4, d5, d6] => { results := [.lit (.bool false)], args := [d1, d2, d3, d4, d5, d6] }
  | _ => none }
def NfaGrowsWrongFalsely : Prop := nfaGrowsRow.holds Try.pinned (OpenSpec.ofChange nfaGrowsWrong)

/-- 'milestonelaw6.NfaOwn': WHATEVER THE INPUT: true; the input reads as it did. -/
def nfaOwnSpec : ChangeSpec := { name := "nfaOwn", fn := fun _ => fun
  | [d1, d2, d3] => { results := [.lit (.bool true)], args := [d1, d2, d3] }
  | _ => none }
def nfaOwnRow : OpenClaim := { program := "ytcaemgpificohaa", sum := "b4a9143d60cd42fd37325bc61af1c6b82ffe927da3f218836a97ff8f808e6672", func := "milestone/milestonelaw6.NfaOwn", spec := "nfaOwn", unfollowed := true, recurses := true, apart := false }
def NfaOwnSaid : Prop := nfaOwnRow.holds Try.pinned (OpenSpec.ofChange nfaOwnSpec)

/-- ITS FALSE NEIGHBOUR: 'it returns false'. Refute it at one input. -/
def nfaOwnWrong : ChangeSpec := { name := "nfaOwn", fn := fun _ => fun
  | [d1, d2, d3] => { results := [.lit (.bool false)], args := [d1, d2, d3] }
  | _ => none }
def NfaOwnWrongFalsely : Prop := nfaOwnRow.holds Try.pinned (OpenSpec.ofChange nfaOwnWrong)

/- THE SECOND FORM. 'bulk': how many values and letters a reading holds, each counted each time it is reached (what is shared counts as often as it is met; a slice's spare places count too). A statement '..UptoSaid' is the law's where the arguments, and the package variables that the reading takes, are together of bulk at most 1048576: NARROWER than '..Said'. Prove '..Said' where nothing that the law and all that it calls make is longer than what came in: it says more and counts as full. Else prove '..UptoSaid'. A law counts once. -/
mutual
def uptoBulk {H : Type} : DataW H → Nat
  | .lit (.string bytes) => bytes.length + 1
  | .lit _ => 1
  | .nil => 1
  | .ptr d => uptoBulk d + 1
  | .slice elems spare => uptoBulkAll elems + uptoBulkAll spare + 1
  | .agg parts => uptoBulkAll parts + 1
  | .iface _ d => uptoBulk d + 1
  | .map entries => uptoBulkEntries entries + 1
  | .held _ => 1
def uptoBulkAll {H : Type} : List (DataW H) → Nat
  | [] => 0
  | d :: r => uptoBulk d + uptoBulkAll r
def uptoBulkEntries {H : Type} : List (Lit × DataW H) → Nat
  | [] => 0
  | x :: r => uptoBulkEntry x + uptoBulkEntries r
def uptoBulkEntry {H : Type} : Lit × DataW H → Nat
  | (.string bytes, d) => bytes.length + uptoBulk d + 1
  | (_, d) => uptoBulk d + 1
 end
def uptoSmall : (H : Type) → List (DataW H) → Bool := fun _ ds => decide (uptoBulkAll ds ≤ 1048576)
def OpenSpec.upto (s : _root_.Go.ChangeSpec) : _root_.Go.OpenSpec := { _root_.Go.OpenSpec.ofChange s with cond := some uptoSmall }

/-- 'milestonelaw6.NfaBuilds', WHERE WHAT IT READS IS OF BULK AT MOST 1048576: true; the input reads as it did. -/
def nfaBuildsUptoRow : OpenClaim := { program := "ytcaemgpificohaa", sum := "b4a9143d60cd42fd37325bc61af1c6b82ffe927da3f218836a97ff8f808e6672", func := "milestone/milestonelaw6.NfaBuilds", spec := "nfaBuilds", unfollowed := true, recurses := true, loops := true, apart := false, narrowed := true }
def NfaBuildsUptoSaid : Prop := nfaBuildsUptoRow.holds Try.pinned (OpenSpec.upto nfaBuildsSpec)

/-- 'milestonelaw6.NfaTakes', WHERE WHAT IT READS IS OF BULK AT MOST 1048576: true; the input reads as it did. -/
def nfaTakesUptoRow : OpenClaim := { program := "ytcaemgpificohaa", sum := "b4a9143d60cd42fd37325bc61af1c6b82ffe927da3f218836a97ff8f808e6672", func := "milestone/milestonelaw6.NfaTakes", spec := "nfaTakes", unfollowed := true, recurses := true, loops := true, apart := false, narrowed := true }
def NfaTakesUptoSaid : Prop := nfaTakesUptoRow.holds Try.pinned (OpenSpec.upto nfaTakesSpec)

/-- 'milestonelaw6.NfaChecks', WHERE WHAT IT READS IS OF BULK AT MOST 1048576: true; the input reads as it did. -/
def nfaChecksUptoRow : OpenClaim := { program := "ytcaemgpificohaa", sum := "b4a9143d60cd42fd37325bc61af1c6b82ffe927da3f218836a97ff8f808e6672", func := "milestone/milestonelaw6.NfaChecks", spec := "nfaChecks", unfollowed := true, recurses := true, apart := false, narrowed := true }
def NfaChecksUptoSaid : Prop := nfaChecksUptoRow.holds Try.pinned (OpenSpec.upto nfaChecksSpec)

/-- 'milestonelaw6.NfaRuns', WHERE WHAT IT READS IS OF BULK AT MOST 1048576: true; the input reads as it did. -/
def nfaRunsUptoRow : OpenClaim := { program := "ytcaemgpificohaa", sum := "b4a9143d60cd42fd37325bc61af1c6b82ffe927da3f218836a97ff8f808e6672", func := "milestone/milestonelaw6.NfaRuns", spec := "nfaRuns", unfollowed := true, recurses := true, apart := false, narrowed := true }
def NfaRunsUptoSaid : Prop := nfaRunsUptoRow.holds Try.pinned (OpenSpec.upto nfaRunsSpec)

/-- 'milestonelaw6.NfaCloses', WHERE WHAT IT READS IS OF BULK AT MOST 1048576: true; the input reads as it did. -/
def nfaClosesUptoRow : OpenClaim := { program := "ytcaemgpificohaa", sum := "b4a9143d60cd42fd37325bc61af1c6b82ffe927da3f218836a97ff8f808e6672", func := "milestone/milestonelaw6.NfaCloses", spec := "nfaCloses", unfollowed := true, recurses := true, apart := false, narrowed := true }
def NfaClosesUptoSaid : Prop := nfaClosesUptoRow.holds Try.pinned (OpenSpec.upto nfaClosesSpec)

/-- 'milestonelaw6.NfaLarge', WHERE WHAT IT READS IS OF BULK AT MOST 1048576: true; the input reads as it did. -/
def nfaLargeUptoRow : OpenClaim := { program := "ytcaemgpificohaa", sum := "b4a9143d60cd42fd37325bc61af1c6b82ffe927da3f218836a97ff8f808e6672", func := "milestone/milestonelaw6.NfaLarge", spec := "nfaLarge", unfollowed := true, recurses := true, apart := false, narrowed := true }
def NfaLargeUptoSaid : Prop := nfaLargeUptoRow.holds Try.pinned (OpenSpec.upto nfaLargeSpec)

/-- 'milestonelaw6.NfaKnown', WHERE WHAT IT READS IS OF BULK AT MOST 1048576: true; the input reads as it did. -/
def nfaKnownUptoRow : OpenClaim := { program := "ytcaemgpificohaa", sum := "b4a9143d60cd42fd37325bc61af1c6b82ffe927da3f218836a97ff8f808e6672", func := "milestone/milestonelaw6.NfaKnown", spec := "nfaKnown", unfollowed := true, recurses := true, apart := false, narrowed := true }
def NfaKnownUptoSaid : Prop := nfaKnownUptoRow.holds Try.pinned (OpenSpec.upto nfaKnownSpec)

/-- 'milestonelaw6.NfaGrows', WHERE WHAT IT READS IS OF BULK AT MOST 1048576: true; the input reads as it did. -/
def nfaGrowsUptoRow : OpenClaim := { program := "ytcaemgpificohaa", sum := "b4a9143d60cd42fd37325bc61af1c6b82ffe927da3f218836a97ff8f808e6672", func := "milestone/milestonelaw6.NfaGrows", spec := "nfaGrows", unfollowed := true, recurses := true, apart := false, narrowed := true }
def NfaGrowsUptoSaid : Prop := nfaGrowsUptoRow.holds Try.pinned (OpenSpec.upto nfaGrowsSpec)

/-- 'milestonelaw6.NfaOwn', WHERE WHAT IT READS IS OF BULK AT MOST 1048576: true; the input reads as it did. -/
def nfaOwnUptoRow : OpenClaim := { program := "ytcaemgpificohaa", sum := "b4a9143d60cd42fd37325bc61af1c6b82ffe927da3f218836a97ff8f808e6672", func := "milestone/milestonelaw6.NfaOwn", spec := "nfaOwn", unfollowed := true, recurses := true, apart := false, narrowed := true }
def NfaOwnUptoSaid : Prop := nfaOwnUptoRow.holds Try.pinned (OpenSpec.upto nfaOwnSpec)

end Rows
end Go.Proofs.Ytcaemgpificohaa
