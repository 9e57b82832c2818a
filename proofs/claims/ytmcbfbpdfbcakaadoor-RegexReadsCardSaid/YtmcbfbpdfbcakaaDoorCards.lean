/-
  DERIVED. GIVEN WITH THE SEED: THE CARDS: each row of YtmcbfbpdfbcakaaDoorRows.lean that lists a variable, with what it lists TIED to the program's text (the seventh form; the later family's looks); each row that meets fmt, with fmt's text TOLD by the authors' own Lean function (tested against real Go, not proved from fmt's source: count such statements apart). THE CARD IS WHAT COUNTS. Prove the row's statement (the work); the ties are given (YtmcbfbpdfbcakaaDoorTie.lean); close each card by the builder's one call (the guide's Derived/Test/ToyasCard.lean, 'card_holds'). Laid BY PROGRAM, IN A SANDBOX (cutbox-door.mjs). By AI agents, Wed Nov 11 2026. No macro, syntax, notation, axiom, sorry.
-/
import Derived.Test.YtmcbfbpdfbcakaaDoorRows
import GoSem.ClaimSeven
namespace Go.Proofs.YtmcbfbpdfbcakaaDoor
namespace Rows

/-- THE TIED CARD OF 'milestonelaw4.RegexReads'. -/
def regexReadsCard : Claim7 := { stood := { row := regexReadsRow, standIns := [], harness := (true, "252fabc33c00c899ba09f24c312bfa73cda626b39cff52bd3a4e30b2933ed510"), looks := false }, kinds := [], alts := [], laidByText := true, laidKinds := [.data, .data, .data], laidTests := true, laidLooks := .later }
def RegexReadsCardSaid : Prop := Claim7.holds Tryd.pinned (.plain (OpenSpec.ofChange regexReadsSpec)) regexReadsCard

/-- THE TIED CARD OF 'milestonelaw4.RegexRight'. -/
def regexRightCard : Claim7 := { stood := { row := regexRightRow, standIns := [], harness := (true, "252fabc33c00c899ba09f24c312bfa73cda626b39cff52bd3a4e30b2933ed510"), looks := false }, kinds := [], alts := [], laidByText := true, laidKinds := [.data, .data, .data], laidTests := true, laidLooks := .later }
def RegexRightCardSaid : Prop := Claim7.holds Tryd.pinned (.plain (OpenSpec.ofChange regexRightSpec)) regexRightCard

/-- THE TIED CARD OF 'milestonelaw4.RegexKnown'. -/
def regexKnownCard : Claim7 := { stood := { row := regexKnownRow, standIns := [], harness := (true, "252fabc33c00c899ba09f24c312bfa73cda626b39cff52bd3a4e30b2933ed510"), looks := false }, kinds := [], alts := [], laidByText := true, laidKinds := [.data, .data, .data], laidTests := true, laidLooks := .later }
def RegexKnownCardSaid : Prop := Claim7.holds Tryd.pinned (.plain (OpenSpec.ofChange regexKnownSpec)) regexKnownCard

/-- THE TIED CARD OF 'milestonelaw4.RegexErrs'. -/
def regexErrsCard : Claim7 := { stood := { row := regexErrsRow, standIns := [], harness := (true, "252fabc33c00c899ba09f24c312bfa73cda626b39cff52bd3a4e30b2933ed510"), looks := false }, kinds := [], alts := [], laidByText := true, laidKinds := [.data, .data, .data], laidTests := true, laidLooks := .later }
def RegexErrsCardSaid : Prop := Claim7.holds Tryd.pinned (.plain (OpenSpec.ofChange regexErrsSpec)) regexErrsCard

/-- THE TIED CARD OF 'milestonelaw4.RegexDeep'. -/
def regexDeepCard : Claim7 := { stood := { row := regexDeepRow, standIns := [], harness := (true, "252fabc33c00c899ba09f24c312bfa73cda626b39cff52bd3a4e30b2933ed510"), looks := false }, kinds := [], alts := [], laidByText := true, laidKinds := [.data, .data, .data], laidTests := true, laidLooks := .later }
def RegexDeepCardSaid : Prop := Claim7.holds Tryd.pinned (.plain (OpenSpec.ofChange regexDeepSpec)) regexDeepCard

/-- THE TIED CARD OF 'milestonelaw4.RegexLong'. -/
def regexLongCard : Claim7 := { stood := { row := regexLongRow, standIns := [], harness := (true, "252fabc33c00c899ba09f24c312bfa73cda626b39cff52bd3a4e30b2933ed510"), looks := false }, kinds := [], alts := [], laidByText := true, laidKinds := [.data, .data, .data], laidTests := true, laidLooks := .later }
def RegexLongCardSaid : Prop := Claim7.holds Tryd.pinned (.plain (OpenSpec.ofChange regexLongSpec)) regexLongCard

/-- THE TIED CARD OF 'milestonelaw4.RegexAgain'. -/
def regexAgainCard : Claim7 := { stood := { row := regexAgainRow, standIns := [], harness := (true, "252fabc33c00c899ba09f24c312bfa73cda626b39cff52bd3a4e30b2933ed510"), looks := false }, kinds := [], alts := [], laidByText := true, laidKinds := [.data, .data, .data], laidTests := true, laidLooks := .later }
def RegexAgainCardSaid : Prop := Claim7.holds Tryd.pinned (.plain (OpenSpec.ofChange regexAgainSpec)) regexAgainCard

/-- THE TIED CARD OF 'milestonelaw4.RegexParts'. -/
def regexPartsCard : Claim7 := { stood := { row := regexPartsRow, standIns := [], harness := (true, "252fabc33c00c899ba09f24c312bfa73cda626b39cff52bd3a4e30b2933ed510"), looks := false }, kinds := [], alts := [], laidByText := true, laidKinds := [.data, .data, .data], laidTests := true, laidLooks := .later }
def RegexPartsCardSaid : Prop := Claim7.holds Tryd.pinned (.plain (OpenSpec.ofChange regexPartsSpec)) regexPartsCard

/-- THE TIED CARD OF 'milestonelaw4.RegexBack'. -/
def regexBackCard : Claim7 := { stood := { row := regexBackRow, standIns := [], harness := (true, "252fabc33c00c899ba09f24c312bfa73cda626b39cff52bd3a4e30b2933ed510"), looks := false }, kinds := [], alts := [], laidByText := true, laidKinds := [.data, .data, .data], laidTests := true, laidLooks := .later }
def RegexBackCardSaid : Prop := Claim7.holds Tryd.pinned (.plain (OpenSpec.ofChange regexBackSpec)) regexBackCard

/-- THE TIED CARD OF 'milestonelaw4.RegexSets'. -/
def regexSetsCard : Claim7 := { stood := { row := regexSetsRow, standIns := [], harness := (true, "252fabc33c00c899ba09f24c312bfa73cda626b39cff52bd3a4e30b2933ed510"), looks := false }, kinds := [], alts := [], laidByText := true, laidKinds := [.data, .data, .data], laidTests := true, laidLooks := .later }
def RegexSetsCardSaid : Prop := Claim7.holds Tryd.pinned (.plain (OpenSpec.ofChange regexSetsSpec)) regexSetsCard

/-- THE SECOND FORM's CARD OF 'milestonelaw4.RegexReads'. -/
def regexReadsUptoCard : Claim7 := { stood := { row := regexReadsUptoRow, standIns := [], harness := (true, "252fabc33c00c899ba09f24c312bfa73cda626b39cff52bd3a4e30b2933ed510"), looks := false }, kinds := [], alts := [], laidByText := true, laidKinds := [.data, .data, .data], laidTests := true, laidLooks := .later }
def RegexReadsUptoCardSaid : Prop := Claim7.holds Tryd.pinned (.plain (OpenSpec.upto regexReadsSpec)) regexReadsUptoCard

/-- THE SECOND FORM's CARD OF 'milestonelaw4.RegexRight'. -/
def regexRightUptoCard : Claim7 := { stood := { row := regexRightUptoRow, standIns := [], harness := (true, "252fabc33c00c899ba09f24c312bfa73cda626b39cff52bd3a4e30b2933ed510"), looks := false }, kinds := [], alts := [], laidByText := true, laidKinds := [.data, .data, .data], laidTests := true, laidLooks := .later }
def RegexRightUptoCardSaid : Prop := Claim7.holds Tryd.pinned (.plain (OpenSpec.upto regexRightSpec)) regexRightUptoCard

/-- THE SECOND FORM's CARD OF 'milestonelaw4.RegexKnown'. -/
def regexKnownUptoCard : Claim7 := { stood := { row := regexKnownUptoRow, standIns := [], harness := (true, "252fabc33c00c899ba09f24c312bfa73cda626b39cff52bd3a4e30b2933ed510"), looks := false }, kinds := [], alts := [], laidByText := true, laidKinds := [.data, .data, .data], laidTests := true, laidLooks := .later }
def RegexKnownUptoCardSaid : Prop := Claim7.holds Tryd.pinned (.plain (OpenSpec.upto regexKnownSpec)) regexKnownUptoCard

/-- THE SECOND FORM's CARD OF 'milestonelaw4.RegexErrs'. -/
def regexErrsUptoCard : Claim7 := { stood := { row := regexErrsUptoRow, standIns := [], harness := (true, "252fabc33c00c899ba09f24c312bfa73cda626b39cff52bd3a4e30b2933ed510"), looks := false }, kinds := [], alts := [], laidByText := true, laidKinds := [.data, .data, .data], laidTests := true, laidLooks := .later }
def RegexErrsUptoCardSaid : Prop := Claim7.holds Tryd.pinned (.plain (OpenSpec.upto regexErrsSpec)) regexErrsUptoCard

/-- THE SECOND FORM's CARD OF 'milestonelaw4.RegexDeep'. -/
def regexDeepUptoCard : Claim7 := { stood := { row := regexDeepUptoRow, standIns := [], harness := (true, "252fabc33c00c899ba09f24c312bfa73cda626b39cff52bd3a4e30b2933ed510"), looks := false }, kinds := [], alts := [], laidByText := true, laidKinds := [.data, .data, .data], laidTests := true, laidLooks := .later }
def RegexDeepUptoCardSaid : Prop := Claim7.holds Tryd.pinned (.plain (OpenSpec.upto regexDeepSpec)) regexDeepUptoCard

/-- THE SECOND FORM's CARD OF 'milestonelaw4.RegexLong'. -/
def regexLongUptoCard : Claim7 := { stood := { row := regexLongUptoRow, standIns := [], harness := (true, "252fabc33c00c899ba09f24c312bfa73cda626b39cff52bd3a4e30b2933ed510"), looks := false }, kinds := [], alts := [], laidByText := true, laidKinds := [.data, .data, .data], laidTests := true, laidLooks := .later }
def RegexLongUptoCardSaid : Prop := Claim7.holds Tryd.pinned (.plain (OpenSpec.upto regexLongSpec)) regexLongUptoCard

/-- THE SECOND FORM's CARD OF 'milestonelaw4.RegexAgain'. -/
def regexAgainUptoCard : Claim7 := { stood := { row := regexAgainUptoRow, standIns := [], harness := (true, "252fabc33c00c899ba09f24c312bfa73cda626b39cff52bd3a4e30b2933ed510"), looks := false }, kinds := [], alts := [], laidByText := true, laidKinds := [.data, .data, .data], laidTests := true, laidLooks := .later }
def RegexAgainUptoCardSaid : Prop := Claim7.holds Tryd.pinned (.plain (OpenSpec.upto regexAgainSpec)) regexAgainUptoCard

/-- THE SECOND FORM's CARD OF 'milestonelaw4.RegexParts'. -/
def regexPartsUptoCard : Claim7 := { stood := { row := regexPartsUptoRow, standIns := [], harness := (true, "252fabc33c00c899ba09f24c312bfa73cda626b39cff52bd3a4e30b2933ed510"), looks := false }, kinds := [], alts := [], laidByText := true, laidKinds := [.data, .data, .data], laidTests := true, laidLooks := .later }
def RegexPartsUptoCardSaid : Prop := Claim7.holds Tryd.pinned (.plain (OpenSpec.upto regexPartsSpec)) regexPartsUptoCard

/-- THE SECOND FORM's CARD OF 'milestonelaw4.RegexBack'. -/
def regexBackUptoCard : Claim7 := { stood := { row := regexBackUptoRow, standIns := [], harness := (true, "252fabc33c00c899ba09f24c312bfa73cda626b39cff52bd3a4e30b2933ed510"), looks := false }, kinds := [], alts := [], laidByText := true, laidKinds := [.data, .data, .data], laidTests := true, laidLooks := .later }
def RegexBackUptoCardSaid : Prop := Claim7.holds Tryd.pinned (.plain (OpenSpec.upto regexBackSpec)) regexBackUptoCard

/-- THE SECOND FORM's CARD OF 'milestonelaw4.RegexSets'. -/
def regexSetsUptoCard : Claim7 := { stood := { row := regexSetsUptoRow, standIns := [], harness := (true, "252fabc33c00c899ba09f24c312bfa73cda626b39cff52bd3a4e30b2933ed510"), looks := false }, kinds := [], alts := [], laidByText := true, laidKinds := [.data, .data, .data], laidTests := true, laidLooks := .later }
def RegexSetsUptoCardSaid : Prop := Claim7.holds Tryd.pinned (.plain (OpenSpec.upto regexSetsSpec)) regexSetsUptoCard
end Rows
end Go.Proofs.YtmcbfbpdfbcakaaDoor
