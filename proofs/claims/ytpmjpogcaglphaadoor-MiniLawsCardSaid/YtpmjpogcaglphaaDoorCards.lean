/-
  DERIVED. GIVEN WITH THE SEED: THE CARDS: each row of YtpmjpogcaglphaaDoorRows.lean that lists a variable, with what it lists TIED to the program's text (the seventh form; the later family's looks); each row that meets fmt, with fmt's text TOLD by the authors' own Lean function (tested against real Go, not proved from fmt's source: count such statements apart). THE CARD IS WHAT COUNTS. Prove the row's statement (the work); the ties are given (YtpmjpogcaglphaaDoorTie.lean); close each card by the builder's one call (the guide's Derived/Test/ToyasCard.lean, 'card_holds'). Laid BY PROGRAM, IN A SANDBOX (cutbox-door.mjs). By AI agents, Wed Nov 11 2026. No macro, syntax, notation, axiom, sorry.
-/
import Derived.Test.YtpmjpogcaglphaaDoorRows
import GoSem.ClaimSeven
namespace Go.Proofs.YtpmjpogcaglphaaDoor
namespace Rows

/-- THE TIED CARD OF 'milestonelaw8.MiniAll'. -/
def miniAllCard : Claim7 := { stood := { row := miniAllRow, standIns := [], harness := (true, "102ca1f5da5c52998f5edfe949f841430b613cce0079492f5bc01c543bb3a885"), looks := false }, kinds := [], alts := [], laidByText := true, laidKinds := [.data, .data, .data], laidTests := true, laidLooks := .later }
def MiniAllCardSaid : Prop := Claim7.holds Tryd.pinned (.plain (OpenSpec.ofChange miniAllSpec)) miniAllCard

/-- THE TIED CARD OF 'milestonelaw8.MiniOne'. -/
def miniOneCard : Claim7 := { stood := { row := miniOneRow, standIns := [], harness := (true, "102ca1f5da5c52998f5edfe949f841430b613cce0079492f5bc01c543bb3a885"), looks := false }, kinds := [], alts := [], laidByText := true, laidKinds := [.data, .data, .data], laidTests := true, laidLooks := .later }
def MiniOneCardSaid : Prop := Claim7.holds Tryd.pinned (.plain (OpenSpec.ofChange miniOneSpec)) miniOneCard

/-- THE TIED CARD OF 'milestonelaw8.MiniLaws'. -/
def miniLawsCard : Claim7 := { stood := { row := miniLawsRow, standIns := [], harness := (true, "102ca1f5da5c52998f5edfe949f841430b613cce0079492f5bc01c543bb3a885"), looks := false }, kinds := [], alts := [], laidByText := true, laidKinds := [.data, .data, .data], laidTests := true, laidLooks := .later }
def MiniLawsCardSaid : Prop := Claim7.holds Tryd.pinned (.plain (OpenSpec.ofChange miniLawsSpec)) miniLawsCard

/-- THE TIED CARD OF 'milestonelaw8.MiniKnown'. -/
def miniKnownCard : Claim7 := { stood := { row := miniKnownRow, standIns := [], harness := (true, "102ca1f5da5c52998f5edfe949f841430b613cce0079492f5bc01c543bb3a885"), looks := false }, kinds := [], alts := [], laidByText := true, laidKinds := [.data, .data, .data], laidTests := true, laidLooks := .later }
def MiniKnownCardSaid : Prop := Claim7.holds Tryd.pinned (.plain (OpenSpec.ofChange miniKnownSpec)) miniKnownCard

/-- THE TIED CARD OF 'milestonelaw8.MiniSteady'. -/
def miniSteadyCard : Claim7 := { stood := { row := miniSteadyRow, standIns := [], harness := (true, "102ca1f5da5c52998f5edfe949f841430b613cce0079492f5bc01c543bb3a885"), looks := false }, kinds := [], alts := [], laidByText := true, laidKinds := [.data, .data, .data], laidTests := true, laidLooks := .later }
def MiniSteadyCardSaid : Prop := Claim7.holds Tryd.pinned (.plain (OpenSpec.ofChange miniSteadySpec)) miniSteadyCard

/-- THE TIED CARD OF 'milestonelaw8.MiniNumbers'. -/
def miniNumbersCard : Claim7 := { stood := { row := miniNumbersRow, standIns := [], harness := (true, "102ca1f5da5c52998f5edfe949f841430b613cce0079492f5bc01c543bb3a885"), looks := false }, kinds := [], alts := [], laidByText := true, laidKinds := [.data, .data, .data], laidTests := true, laidLooks := .later }
def MiniNumbersCardSaid : Prop := Claim7.holds Tryd.pinned (.plain (OpenSpec.ofChange miniNumbersSpec)) miniNumbersCard

/-- THE TIED CARD OF 'milestonelaw8.MiniTakes'. -/
def miniTakesCard : Claim7 := { stood := { row := miniTakesRow, standIns := [], harness := (true, "102ca1f5da5c52998f5edfe949f841430b613cce0079492f5bc01c543bb3a885"), looks := false }, kinds := [], alts := [], laidByText := true, laidKinds := [.data, .data, .data], laidTests := true, laidLooks := .later }
def MiniTakesCardSaid : Prop := Claim7.holds Tryd.pinned (.plain (OpenSpec.ofChange miniTakesSpec)) miniTakesCard

/-- THE TIED CARD OF 'milestonelaw8.MiniApart'. -/
def miniApartCard : Claim7 := { stood := { row := miniApartRow, standIns := [], harness := (true, "102ca1f5da5c52998f5edfe949f841430b613cce0079492f5bc01c543bb3a885"), looks := false }, kinds := [], alts := [], laidByText := true, laidKinds := [.data, .data, .data], laidTests := true, laidLooks := .later }
def MiniApartCardSaid : Prop := Claim7.holds Tryd.pinned (.plain (OpenSpec.ofChange miniApartSpec)) miniApartCard

/-- THE TIED CARD OF 'milestonelaw8.MiniTwice'. -/
def miniTwiceCard : Claim7 := { stood := { row := miniTwiceRow, standIns := [], harness := (true, "102ca1f5da5c52998f5edfe949f841430b613cce0079492f5bc01c543bb3a885"), looks := false }, kinds := [], alts := [], laidByText := true, laidKinds := [.data, .data, .data], laidTests := true, laidLooks := .later }
def MiniTwiceCardSaid : Prop := Claim7.holds Tryd.pinned (.plain (OpenSpec.ofChange miniTwiceSpec)) miniTwiceCard

/-- THE TIED CARD OF 'milestonelaw8.MiniFirst'. -/
def miniFirstCard : Claim7 := { stood := { row := miniFirstRow, standIns := [], harness := (true, "102ca1f5da5c52998f5edfe949f841430b613cce0079492f5bc01c543bb3a885"), looks := false }, kinds := [], alts := [], laidByText := true, laidKinds := [.data, .data, .data], laidTests := true, laidLooks := .later }
def MiniFirstCardSaid : Prop := Claim7.holds Tryd.pinned (.plain (OpenSpec.ofChange miniFirstSpec)) miniFirstCard

/-- THE TIED CARD OF 'milestonelaw8.MiniOther'. -/
def miniOtherCard : Claim7 := { stood := { row := miniOtherRow, standIns := [], harness := (true, "102ca1f5da5c52998f5edfe949f841430b613cce0079492f5bc01c543bb3a885"), looks := false }, kinds := [], alts := [], laidByText := true, laidKinds := [.data, .data, .data], laidTests := true, laidLooks := .later }
def MiniOtherCardSaid : Prop := Claim7.holds Tryd.pinned (.plain (OpenSpec.ofChange miniOtherSpec)) miniOtherCard

/-- THE SECOND FORM's CARD OF 'milestonelaw8.MiniAll'. -/
def miniAllUptoCard : Claim7 := { stood := { row := miniAllUptoRow, standIns := [], harness := (true, "102ca1f5da5c52998f5edfe949f841430b613cce0079492f5bc01c543bb3a885"), looks := false }, kinds := [], alts := [], laidByText := true, laidKinds := [.data, .data, .data], laidTests := true, laidLooks := .later }
def MiniAllUptoCardSaid : Prop := Claim7.holds Tryd.pinned (.plain (OpenSpec.upto miniAllSpec)) miniAllUptoCard

/-- THE SECOND FORM's CARD OF 'milestonelaw8.MiniOne'. -/
def miniOneUptoCard : Claim7 := { stood := { row := miniOneUptoRow, standIns := [], harness := (true, "102ca1f5da5c52998f5edfe949f841430b613cce0079492f5bc01c543bb3a885"), looks := false }, kinds := [], alts := [], laidByText := true, laidKinds := [.data, .data, .data], laidTests := true, laidLooks := .later }
def MiniOneUptoCardSaid : Prop := Claim7.holds Tryd.pinned (.plain (OpenSpec.upto miniOneSpec)) miniOneUptoCard

/-- THE SECOND FORM's CARD OF 'milestonelaw8.MiniLaws'. -/
def miniLawsUptoCard : Claim7 := { stood := { row := miniLawsUptoRow, standIns := [], harness := (true, "102ca1f5da5c52998f5edfe949f841430b613cce0079492f5bc01c543bb3a885"), looks := false }, kinds := [], alts := [], laidByText := true, laidKinds := [.data, .data, .data], laidTests := true, laidLooks := .later }
def MiniLawsUptoCardSaid : Prop := Claim7.holds Tryd.pinned (.plain (OpenSpec.upto miniLawsSpec)) miniLawsUptoCard

/-- THE SECOND FORM's CARD OF 'milestonelaw8.MiniKnown'. -/
def miniKnownUptoCard : Claim7 := { stood := { row := miniKnownUptoRow, standIns := [], harness := (true, "102ca1f5da5c52998f5edfe949f841430b613cce0079492f5bc01c543bb3a885"), looks := false }, kinds := [], alts := [], laidByText := true, laidKinds := [.data, .data, .data], laidTests := true, laidLooks := .later }
def MiniKnownUptoCardSaid : Prop := Claim7.holds Tryd.pinned (.plain (OpenSpec.upto miniKnownSpec)) miniKnownUptoCard

/-- THE SECOND FORM's CARD OF 'milestonelaw8.MiniSteady'. -/
def miniSteadyUptoCard : Claim7 := { stood := { row := miniSteadyUptoRow, standIns := [], harness := (true, "102ca1f5da5c52998f5edfe949f841430b613cce0079492f5bc01c543bb3a885"), looks := false }, kinds := [], alts := [], laidByText := true, laidKinds := [.data, .data, .data], laidTests := true, laidLooks := .later }
def MiniSteadyUptoCardSaid : Prop := Claim7.holds Tryd.pinned (.plain (OpenSpec.upto miniSteadySpec)) miniSteadyUptoCard

/-- THE SECOND FORM's CARD OF 'milestonelaw8.MiniNumbers'. -/
def miniNumbersUptoCard : Claim7 := { stood := { row := miniNumbersUptoRow, standIns := [], harness := (true, "102ca1f5da5c52998f5edfe949f841430b613cce0079492f5bc01c543bb3a885"), looks := false }, kinds := [], alts := [], laidByText := true, laidKinds := [.data, .data, .data], laidTests := true, laidLooks := .later }
def MiniNumbersUptoCardSaid : Prop := Claim7.holds Tryd.pinned (.plain (OpenSpec.upto miniNumbersSpec)) miniNumbersUptoCard

/-- THE SECOND FORM's CARD OF 'milestonelaw8.MiniTakes'. -/
def miniTakesUptoCard : Claim7 := { stood := { row := miniTakesUptoRow, standIns := [], harness := (true, "102ca1f5da5c52998f5edfe949f841430b613cce0079492f5bc01c543bb3a885"), looks := false }, kinds := [], alts := [], laidByText := true, laidKinds := [.data, .data, .data], laidTests := true, laidLooks := .later }
def MiniTakesUptoCardSaid : Prop := Claim7.holds Tryd.pinned (.plain (OpenSpec.upto miniTakesSpec)) miniTakesUptoCard

/-- THE SECOND FORM's CARD OF 'milestonelaw8.MiniApart'. -/
def miniApartUptoCard : Claim7 := { stood := { row := miniApartUptoRow, standIns := [], harness := (true, "102ca1f5da5c52998f5edfe949f841430b613cce0079492f5bc01c543bb3a885"), looks := false }, kinds := [], alts := [], laidByText := true, laidKinds := [.data, .data, .data], laidTests := true, laidLooks := .later }
def MiniApartUptoCardSaid : Prop := Claim7.holds Tryd.pinned (.plain (OpenSpec.upto miniApartSpec)) miniApartUptoCard

/-- THE SECOND FORM's CARD OF 'milestonelaw8.MiniTwice'. -/
def miniTwiceUptoCard : Claim7 := { stood := { row := miniTwiceUptoRow, standIns := [], harness := (true, "102ca1f5da5c52998f5edfe949f841430b613cce0079492f5bc01c543bb3a885"), looks := false }, kinds := [], alts := [], laidByText := true, laidKinds := [.data, .data, .data], laidTests := true, laidLooks := .later }
def MiniTwiceUptoCardSaid : Prop := Claim7.holds Tryd.pinned (.plain (OpenSpec.upto miniTwiceSpec)) miniTwiceUptoCard

/-- THE SECOND FORM's CARD OF 'milestonelaw8.MiniFirst'. -/
def miniFirstUptoCard : Claim7 := { stood := { row := miniFirstUptoRow, standIns := [], harness := (true, "102ca1f5da5c52998f5edfe949f841430b613cce0079492f5bc01c543bb3a885"), looks := false }, kinds := [], alts := [], laidByText := true, laidKinds := [.data, .data, .data], laidTests := true, laidLooks := .later }
def MiniFirstUptoCardSaid : Prop := Claim7.holds Tryd.pinned (.plain (OpenSpec.upto miniFirstSpec)) miniFirstUptoCard

/-- THE SECOND FORM's CARD OF 'milestonelaw8.MiniOther'. -/
def miniOtherUptoCard : Claim7 := { stood := { row := miniOtherUptoRow, standIns := [], harness := (true, "102ca1f5da5c52998f5edfe949f841430b613cce0079492f5bc01c543bb3a885"), looks := false }, kinds := [], alts := [], laidByText := true, laidKinds := [.data, .data, .data], laidTests := true, laidLooks := .later }
def MiniOtherUptoCardSaid : Prop := Claim7.holds Tryd.pinned (.plain (OpenSpec.upto miniOtherSpec)) miniOtherUptoCard
end Rows
end Go.Proofs.YtpmjpogcaglphaaDoor
