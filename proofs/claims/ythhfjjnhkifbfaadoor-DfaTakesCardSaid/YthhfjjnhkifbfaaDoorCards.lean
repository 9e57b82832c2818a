/-
  DERIVED. GIVEN WITH THE SEED: THE CARDS: each row of YthhfjjnhkifbfaaDoorRows.lean that lists a variable, with what it lists TIED to the program's text (the seventh form; the later family's looks); each row that meets fmt, with fmt's text TOLD by the authors' own Lean function (tested against real Go, not proved from fmt's source: count such statements apart). THE CARD IS WHAT COUNTS. Prove the row's statement (the work); the ties are given (YthhfjjnhkifbfaaDoorTie.lean); close each card by the builder's one call (the guide's Derived/Test/ToyasCard.lean, 'card_holds'). Laid BY PROGRAM, IN A SANDBOX (cutbox-door.mjs). By AI agents, Wed Nov 11 2026. No macro, syntax, notation, axiom, sorry.
-/
import Derived.Test.YthhfjjnhkifbfaaDoorRows
import GoSem.ClaimSeven
namespace Go.Proofs.YthhfjjnhkifbfaaDoor
namespace Rows

/-- THE TIED CARD OF 'milestonelaw7.DfaChecks'. -/
def dfaChecksCard : Claim7 := { stood := { row := dfaChecksRow, standIns := [], harness := (true, "31b57a73b418b03f6695005d26e62927fc0dacb682e6ee5b1aa980f0c3b8d683"), looks := false }, kinds := [], alts := [], laidByText := true, laidKinds := [.data, .data, .data], laidTests := true, laidLooks := .later }
def DfaChecksCardSaid : Prop := Claim7.holds Tryd.pinned (.plain (OpenSpec.ofChange dfaChecksSpec)) dfaChecksCard

/-- THE TIED CARD OF 'milestonelaw7.DfaRuns'. -/
def dfaRunsCard : Claim7 := { stood := { row := dfaRunsRow, standIns := [], harness := (true, "31b57a73b418b03f6695005d26e62927fc0dacb682e6ee5b1aa980f0c3b8d683"), looks := false }, kinds := [], alts := [], laidByText := true, laidKinds := [.data, .data, .data], laidTests := true, laidLooks := .later }
def DfaRunsCardSaid : Prop := Claim7.holds Tryd.pinned (.plain (OpenSpec.ofChange dfaRunsSpec)) dfaRunsCard

/-- THE TIED CARD OF 'milestonelaw7.DfaSubsets'. -/
def dfaSubsetsCard : Claim7 := { stood := { row := dfaSubsetsRow, standIns := [], harness := (true, "31b57a73b418b03f6695005d26e62927fc0dacb682e6ee5b1aa980f0c3b8d683"), looks := false }, kinds := [], alts := [], laidByText := true, laidKinds := [.data, .data, .data], laidTests := true, laidLooks := .later }
def DfaSubsetsCardSaid : Prop := Claim7.holds Tryd.pinned (.plain (OpenSpec.ofChange dfaSubsetsSpec)) dfaSubsetsCard

/-- THE TIED CARD OF 'milestonelaw7.DfaTakes'. -/
def dfaTakesCard : Claim7 := { stood := { row := dfaTakesRow, standIns := [], harness := (true, "31b57a73b418b03f6695005d26e62927fc0dacb682e6ee5b1aa980f0c3b8d683"), looks := false }, kinds := [], alts := [], laidByText := true, laidKinds := [.data, .data, .data], laidTests := true, laidLooks := .later }
def DfaTakesCardSaid : Prop := Claim7.holds Tryd.pinned (.plain (OpenSpec.ofChange dfaTakesSpec)) dfaTakesCard

/-- THE TIED CARD OF 'milestonelaw7.DfaEach'. -/
def dfaEachCard : Claim7 := { stood := { row := dfaEachRow, standIns := [], harness := (true, "31b57a73b418b03f6695005d26e62927fc0dacb682e6ee5b1aa980f0c3b8d683"), looks := false }, kinds := [], alts := [], laidByText := true, laidKinds := [.data, .data, .data], laidTests := true, laidLooks := .later }
def DfaEachCardSaid : Prop := Claim7.holds Tryd.pinned (.plain (OpenSpec.ofChange dfaEachSpec)) dfaEachCard

/-- THE TIED CARD OF 'milestonelaw7.DfaMet'. -/
def dfaMetCard : Claim7 := { stood := { row := dfaMetRow, standIns := [], harness := (true, "31b57a73b418b03f6695005d26e62927fc0dacb682e6ee5b1aa980f0c3b8d683"), looks := false }, kinds := [], alts := [], laidByText := true, laidKinds := [.data, .data, .data], laidTests := true, laidLooks := .later }
def DfaMetCardSaid : Prop := Claim7.holds Tryd.pinned (.plain (OpenSpec.ofChange dfaMetSpec)) dfaMetCard

/-- THE SECOND FORM's CARD OF 'milestonelaw7.DfaChecks'. -/
def dfaChecksUptoCard : Claim7 := { stood := { row := dfaChecksUptoRow, standIns := [], harness := (true, "31b57a73b418b03f6695005d26e62927fc0dacb682e6ee5b1aa980f0c3b8d683"), looks := false }, kinds := [], alts := [], laidByText := true, laidKinds := [.data, .data, .data], laidTests := true, laidLooks := .later }
def DfaChecksUptoCardSaid : Prop := Claim7.holds Tryd.pinned (.plain (OpenSpec.upto dfaChecksSpec)) dfaChecksUptoCard

/-- THE SECOND FORM's CARD OF 'milestonelaw7.DfaRuns'. -/
def dfaRunsUptoCard : Claim7 := { stood := { row := dfaRunsUptoRow, standIns := [], harness := (true, "31b57a73b418b03f6695005d26e62927fc0dacb682e6ee5b1aa980f0c3b8d683"), looks := false }, kinds := [], alts := [], laidByText := true, laidKinds := [.data, .data, .data], laidTests := true, laidLooks := .later }
def DfaRunsUptoCardSaid : Prop := Claim7.holds Tryd.pinned (.plain (OpenSpec.upto dfaRunsSpec)) dfaRunsUptoCard

/-- THE SECOND FORM's CARD OF 'milestonelaw7.DfaSubsets'. -/
def dfaSubsetsUptoCard : Claim7 := { stood := { row := dfaSubsetsUptoRow, standIns := [], harness := (true, "31b57a73b418b03f6695005d26e62927fc0dacb682e6ee5b1aa980f0c3b8d683"), looks := false }, kinds := [], alts := [], laidByText := true, laidKinds := [.data, .data, .data], laidTests := true, laidLooks := .later }
def DfaSubsetsUptoCardSaid : Prop := Claim7.holds Tryd.pinned (.plain (OpenSpec.upto dfaSubsetsSpec)) dfaSubsetsUptoCard

/-- THE SECOND FORM's CARD OF 'milestonelaw7.DfaTakes'. -/
def dfaTakesUptoCard : Claim7 := { stood := { row := dfaTakesUptoRow, standIns := [], harness := (true, "31b57a73b418b03f6695005d26e62927fc0dacb682e6ee5b1aa980f0c3b8d683"), looks := false }, kinds := [], alts := [], laidByText := true, laidKinds := [.data, .data, .data], laidTests := true, laidLooks := .later }
def DfaTakesUptoCardSaid : Prop := Claim7.holds Tryd.pinned (.plain (OpenSpec.upto dfaTakesSpec)) dfaTakesUptoCard

/-- THE SECOND FORM's CARD OF 'milestonelaw7.DfaEach'. -/
def dfaEachUptoCard : Claim7 := { stood := { row := dfaEachUptoRow, standIns := [], harness := (true, "31b57a73b418b03f6695005d26e62927fc0dacb682e6ee5b1aa980f0c3b8d683"), looks := false }, kinds := [], alts := [], laidByText := true, laidKinds := [.data, .data, .data], laidTests := true, laidLooks := .later }
def DfaEachUptoCardSaid : Prop := Claim7.holds Tryd.pinned (.plain (OpenSpec.upto dfaEachSpec)) dfaEachUptoCard

/-- THE SECOND FORM's CARD OF 'milestonelaw7.DfaMet'. -/
def dfaMetUptoCard : Claim7 := { stood := { row := dfaMetUptoRow, standIns := [], harness := (true, "31b57a73b418b03f6695005d26e62927fc0dacb682e6ee5b1aa980f0c3b8d683"), looks := false }, kinds := [], alts := [], laidByText := true, laidKinds := [.data, .data, .data], laidTests := true, laidLooks := .later }
def DfaMetUptoCardSaid : Prop := Claim7.holds Tryd.pinned (.plain (OpenSpec.upto dfaMetSpec)) dfaMetUptoCard
end Rows
end Go.Proofs.YthhfjjnhkifbfaaDoor
