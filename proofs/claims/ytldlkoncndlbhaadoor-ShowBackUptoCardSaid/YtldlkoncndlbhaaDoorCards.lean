/-
  DERIVED. GIVEN WITH THE SEED: THE CARDS: each row of YtldlkoncndlbhaaDoorRows.lean that lists a variable, with what it lists TIED to the program's text (the seventh form; the later family's looks); each row that meets fmt, with fmt's text TOLD by the authors' own Lean function (tested against real Go, not proved from fmt's source: count such statements apart). THE CARD IS WHAT COUNTS. Prove the row's statement (the work); the ties are given (YtldlkoncndlbhaaDoorTie.lean); close each card by the builder's one call (the guide's Derived/Test/ToyasCard.lean, 'card_holds'). Laid BY PROGRAM, IN A SANDBOX (cutbox-door.mjs). By AI agents, Wed Nov 11 2026. No macro, syntax, notation, axiom, sorry.
-/
import Derived.Test.YtldlkoncndlbhaaDoorRows
import GoSem.ClaimSeven
namespace Go.Proofs.YtldlkoncndlbhaaDoor
namespace Rows

/-- THE TIED CARD OF 'haulierlaw03.ShowChecks'. -/
def showChecksCard : Claim7 := { stood := { row := showChecksRow, standIns := [], harness := (true, "f7f64af52245c68ce9e21da70b951672bd4e299224670fb1b5d98f932e9bff4c"), looks := true }, kinds := [], alts := [], laidByText := true, laidKinds := [.data, .data, .data, .data, .pinned], laidTests := true, laidLooks := .later }
def ShowChecksCardSaid : Prop := Claim7.holds Tryd.pinned (.plain (OpenSpec.ofChange showChecksSpec)) showChecksCard

/-- THE TIED CARD OF 'haulierlaw03.ShowPrints'. -/
def showPrintsCard : Claim7 := { stood := { row := showPrintsRow, standIns := [], harness := (true, "f7f64af52245c68ce9e21da70b951672bd4e299224670fb1b5d98f932e9bff4c"), looks := true }, kinds := [], alts := [], laidByText := true, laidKinds := [.data, .data, .data, .data, .pinned], laidTests := true, laidLooks := .later }
def ShowPrintsCardSaid : Prop := Claim7.holds Tryd.pinned (.plain (OpenSpec.ofChange showPrintsSpec)) showPrintsCard

/-- THE TIED CARD OF 'haulierlaw03.ShowJoins'. -/
def showJoinsCard : Claim7 := { stood := { row := showJoinsRow, standIns := [], harness := (true, "f7f64af52245c68ce9e21da70b951672bd4e299224670fb1b5d98f932e9bff4c"), looks := true }, kinds := [], alts := [], laidByText := true, laidKinds := [.data, .data, .data, .data, .pinned], laidTests := true, laidLooks := .later }
def ShowJoinsCardSaid : Prop := Claim7.holds Tryd.pinned (.plain (OpenSpec.ofChange showJoinsSpec)) showJoinsCard

/-- THE TIED CARD OF 'haulierlaw03.ShowSame'. -/
def showSameCard : Claim7 := { stood := { row := showSameRow, standIns := [], harness := (true, "f7f64af52245c68ce9e21da70b951672bd4e299224670fb1b5d98f932e9bff4c"), looks := true }, kinds := [], alts := [], laidByText := true, laidKinds := [.data, .data, .data, .data, .pinned], laidTests := true, laidLooks := .later }
def ShowSameCardSaid : Prop := Claim7.holds Tryd.pinned (.plain (OpenSpec.ofChange showSameSpec)) showSameCard

/-- THE TIED CARD OF 'haulierlaw03.ShowQuotes'. -/
def showQuotesCard : Claim7 := { stood := { row := showQuotesRow, standIns := [], harness := (true, "f7f64af52245c68ce9e21da70b951672bd4e299224670fb1b5d98f932e9bff4c"), looks := true }, kinds := [], alts := [], laidByText := true, laidKinds := [.data, .data, .data, .data, .sentinel, .sentinel, .pinned], laidTests := true, laidLooks := .later }
def ShowQuotesCardSaid : Prop := Claim7.holds Tryd.pinned (.plain (OpenSpec.ofChange showQuotesSpec)) showQuotesCard

/-- THE TIED CARD OF 'haulierlaw03.ShowReads'. -/
def showReadsCard : Claim7 := { stood := { row := showReadsRow, standIns := [], harness := (true, "f7f64af52245c68ce9e21da70b951672bd4e299224670fb1b5d98f932e9bff4c"), looks := true }, kinds := [], alts := [], laidByText := true, laidKinds := [.data, .data, .data, .data, .sentinel, .sentinel, .pinned], laidTests := true, laidLooks := .later }
def ShowReadsCardSaid : Prop := Claim7.holds Tryd.pinned (.plain (OpenSpec.ofChange showReadsSpec)) showReadsCard

/-- THE TIED CARD OF 'haulierlaw03.ShowBack'. -/
def showBackCard : Claim7 := { stood := { row := showBackRow, standIns := [], harness := (true, "f7f64af52245c68ce9e21da70b951672bd4e299224670fb1b5d98f932e9bff4c"), looks := true }, kinds := [], alts := [], laidByText := true, laidKinds := [.data, .data, .data, .data, .sentinel, .sentinel, .pinned], laidTests := true, laidLooks := .later }
def ShowBackCardSaid : Prop := Claim7.holds Tryd.pinned (.plain (OpenSpec.ofChange showBackSpec)) showBackCard

/-- THE SECOND FORM's CARD OF 'haulierlaw03.ShowChecks'. -/
def showChecksUptoCard : Claim7 := { stood := { row := showChecksUptoRow, standIns := [], harness := (true, "f7f64af52245c68ce9e21da70b951672bd4e299224670fb1b5d98f932e9bff4c"), looks := true }, kinds := [], alts := [], laidByText := true, laidKinds := [.data, .data, .data, .data, .pinned], laidTests := true, laidLooks := .later }
def ShowChecksUptoCardSaid : Prop := Claim7.holds Tryd.pinned (.plain (OpenSpec.upto showChecksSpec)) showChecksUptoCard

/-- THE SECOND FORM's CARD OF 'haulierlaw03.ShowPrints'. -/
def showPrintsUptoCard : Claim7 := { stood := { row := showPrintsUptoRow, standIns := [], harness := (true, "f7f64af52245c68ce9e21da70b951672bd4e299224670fb1b5d98f932e9bff4c"), looks := true }, kinds := [], alts := [], laidByText := true, laidKinds := [.data, .data, .data, .data, .pinned], laidTests := true, laidLooks := .later }
def ShowPrintsUptoCardSaid : Prop := Claim7.holds Tryd.pinned (.plain (OpenSpec.upto showPrintsSpec)) showPrintsUptoCard

/-- THE SECOND FORM's CARD OF 'haulierlaw03.ShowJoins'. -/
def showJoinsUptoCard : Claim7 := { stood := { row := showJoinsUptoRow, standIns := [], harness := (true, "f7f64af52245c68ce9e21da70b951672bd4e299224670fb1b5d98f932e9bff4c"), looks := true }, kinds := [], alts := [], laidByText := true, laidKinds := [.data, .data, .data, .data, .pinned], laidTests := true, laidLooks := .later }
def ShowJoinsUptoCardSaid : Prop := Claim7.holds Tryd.pinned (.plain (OpenSpec.upto showJoinsSpec)) showJoinsUptoCard

/-- THE SECOND FORM's CARD OF 'haulierlaw03.ShowSame'. -/
def showSameUptoCard : Claim7 := { stood := { row := showSameUptoRow, standIns := [], harness := (true, "f7f64af52245c68ce9e21da70b951672bd4e299224670fb1b5d98f932e9bff4c"), looks := true }, kinds := [], alts := [], laidByText := true, laidKinds := [.data, .data, .data, .data, .pinned], laidTests := true, laidLooks := .later }
def ShowSameUptoCardSaid : Prop := Claim7.holds Tryd.pinned (.plain (OpenSpec.upto showSameSpec)) showSameUptoCard

/-- THE SECOND FORM's CARD OF 'haulierlaw03.ShowQuotes'. -/
def showQuotesUptoCard : Claim7 := { stood := { row := showQuotesUptoRow, standIns := [], harness := (true, "f7f64af52245c68ce9e21da70b951672bd4e299224670fb1b5d98f932e9bff4c"), looks := true }, kinds := [], alts := [], laidByText := true, laidKinds := [.data, .data, .data, .data, .sentinel, .sentinel, .pinned], laidTests := true, laidLooks := .later }
def ShowQuotesUptoCardSaid : Prop := Claim7.holds Tryd.pinned (.plain (OpenSpec.upto showQuotesSpec)) showQuotesUptoCard

/-- THE SECOND FORM's CARD OF 'haulierlaw03.ShowReads'. -/
def showReadsUptoCard : Claim7 := { stood := { row := showReadsUptoRow, standIns := [], harness := (true, "f7f64af52245c68ce9e21da70b951672bd4e299224670fb1b5d98f932e9bff4c"), looks := true }, kinds := [], alts := [], laidByText := true, laidKinds := [.data, .data, .data, .data, .sentinel, .sentinel, .pinned], laidTests := true, laidLooks := .later }
def ShowReadsUptoCardSaid : Prop := Claim7.holds Tryd.pinned (.plain (OpenSpec.upto showReadsSpec)) showReadsUptoCard

/-- THE SECOND FORM's CARD OF 'haulierlaw03.ShowBack'. -/
def showBackUptoCard : Claim7 := { stood := { row := showBackUptoRow, standIns := [], harness := (true, "f7f64af52245c68ce9e21da70b951672bd4e299224670fb1b5d98f932e9bff4c"), looks := true }, kinds := [], alts := [], laidByText := true, laidKinds := [.data, .data, .data, .data, .sentinel, .sentinel, .pinned], laidTests := true, laidLooks := .later }
def ShowBackUptoCardSaid : Prop := Claim7.holds Tryd.pinned (.plain (OpenSpec.upto showBackSpec)) showBackUptoCard
end Rows
end Go.Proofs.YtldlkoncndlbhaaDoor
