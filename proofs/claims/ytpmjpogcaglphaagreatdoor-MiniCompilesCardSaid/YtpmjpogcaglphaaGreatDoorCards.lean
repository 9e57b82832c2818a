/-
  DERIVED. GIVEN WITH THE SEED: THE CARDS: each row of YtpmjpogcaglphaaGreatDoorRows.lean that lists a variable, with what it lists TIED to the program's text (the seventh form; the later family's looks); each row that meets fmt, with fmt's text TOLD by the authors' own Lean function (tested against real Go, not proved from fmt's source: count such statements apart). THE CARD IS WHAT COUNTS. Prove the row's statement (the work); the ties are given (YtpmjpogcaglphaaGreatDoorTie.lean); close each card by the builder's one call (the guide's Derived/Test/ToyasCard.lean, 'card_holds'). Laid BY PROGRAM, IN A SANDBOX (cutbox-door.mjs). By AI agents, Wed Nov 11 2026. No macro, syntax, notation, axiom, sorry.
-/
import Derived.Test.YtpmjpogcaglphaaGreatDoorRows
import GoSem.ClaimSeven
namespace Go.Proofs.YtpmjpogcaglphaaGreatDoor
namespace Rows

/-- THE TIED CARD OF 'milestonelaw8.MiniCompiles'. -/
def miniCompilesCard : Claim7 := { stood := { row := miniCompilesRow, standIns := [], harness := (true, "8b70eef5c7ee87bcd6aecd0181ce635c410064db9b92057f09ab9c33720d341b"), looks := false }, kinds := [], alts := [], laidByText := true, laidKinds := [.data, .data, .data], laidTests := true, laidLooks := .later }
def MiniCompilesCardSaid : Prop := Claim7.holds Tryz.pinned (.plain (OpenSpec.ofChange miniCompilesSpec)) miniCompilesCard

/-- THE SECOND FORM's CARD OF 'milestonelaw8.MiniCompiles'. -/
def miniCompilesUptoCard : Claim7 := { stood := { row := miniCompilesUptoRow, standIns := [], harness := (true, "8b70eef5c7ee87bcd6aecd0181ce635c410064db9b92057f09ab9c33720d341b"), looks := false }, kinds := [], alts := [], laidByText := true, laidKinds := [.data, .data, .data], laidTests := true, laidLooks := .later }
def MiniCompilesUptoCardSaid : Prop := Claim7.holds Tryz.pinned (.plain (OpenSpec.upto miniCompilesSpec)) miniCompilesUptoCard
end Rows
end Go.Proofs.YtpmjpogcaglphaaGreatDoor
