/-
  DERIVED. GIVEN WITH THE SEED: THE CARDS: each row of YtcnhnjajfkgkjaaDoorRows.lean that lists a variable, with what it lists TIED to the program's text (the seventh form; the later family's looks); each row that meets fmt, with fmt's text TOLD by the authors' own Lean function (tested against real Go, not proved from fmt's source: count such statements apart). THE CARD IS WHAT COUNTS. Prove the row's statement (the work); the ties are given (YtcnhnjajfkgkjaaDoorTie.lean); close each card by the builder's one call (the guide's Derived/Test/ToyasCard.lean, 'card_holds'). Laid BY PROGRAM, IN A SANDBOX (cutbox-door.mjs). By AI agents, Wed Nov 11 2026. No macro, syntax, notation, axiom, sorry.
-/
import Derived.Test.YtcnhnjajfkgkjaaDoorRows
import GoSem.ClaimSeven
namespace Go.Proofs.YtcnhnjajfkgkjaaDoor
namespace Rows

/-- THE TIED CARD OF 'haulierlaw01.NumTexts'. -/
def numTextsCard : Claim7 := { stood := { row := numTextsRow, standIns := [], harness := (true, "2e35439ca31a5aee5d202d4b7a677637e3a37fdf101e174e107d31efb39c5162"), looks := true }, kinds := [], alts := [], laidByText := true, laidKinds := [.data, .data, .data, .sentinel, .sentinel], laidTests := true, laidLooks := .later }
def NumTextsCardSaid : Prop := Claim7.holds Tryd.pinned (.plain (OpenSpec.ofChange numTextsSpec)) numTextsCard

/-- THE TIED CARD OF 'haulierlaw01.NumBack'. -/
def numBackCard : Claim7 := { stood := { row := numBackRow, standIns := [], harness := (true, "2e35439ca31a5aee5d202d4b7a677637e3a37fdf101e174e107d31efb39c5162"), looks := true }, kinds := [], alts := [], laidByText := true, laidKinds := [.data, .data, .data, .sentinel, .sentinel], laidTests := true, laidLooks := .later }
def NumBackCardSaid : Prop := Claim7.holds Tryd.pinned (.plain (OpenSpec.ofChange numBackSpec)) numBackCard

/-- THE TIED CARD OF 'haulierlaw01.NumReckons'. -/
def numReckonsCard : Claim7 := { stood := { row := numReckonsRow, standIns := [], harness := (true, "2e35439ca31a5aee5d202d4b7a677637e3a37fdf101e174e107d31efb39c5162"), looks := true }, kinds := [], alts := [], laidByText := true, laidKinds := [.data, .data, .data, .sentinel, .sentinel], laidTests := true, laidLooks := .later }
def NumReckonsCardSaid : Prop := Claim7.holds Tryd.pinned (.plain (OpenSpec.ofChange numReckonsSpec)) numReckonsCard

/-- THE TIED CARD OF 'haulierlaw01.NumOrders'. -/
def numOrdersCard : Claim7 := { stood := { row := numOrdersRow, standIns := [], harness := (true, "2e35439ca31a5aee5d202d4b7a677637e3a37fdf101e174e107d31efb39c5162"), looks := true }, kinds := [], alts := [], laidByText := true, laidKinds := [.data, .data, .data, .sentinel, .sentinel], laidTests := true, laidLooks := .later }
def NumOrdersCardSaid : Prop := Claim7.holds Tryd.pinned (.plain (OpenSpec.ofChange numOrdersSpec)) numOrdersCard

/-- THE TIED CARD OF 'haulierlaw01.NumSigns'. -/
def numSignsCard : Claim7 := { stood := { row := numSignsRow, standIns := [], harness := (true, "2e35439ca31a5aee5d202d4b7a677637e3a37fdf101e174e107d31efb39c5162"), looks := true }, kinds := [], alts := [], laidByText := true, laidKinds := [.data, .data, .data, .sentinel, .sentinel], laidTests := true, laidLooks := .later }
def NumSignsCardSaid : Prop := Claim7.holds Tryd.pinned (.plain (OpenSpec.ofChange numSignsSpec)) numSignsCard

/-- THE TIED CARD OF 'haulierlaw01.NumSums'. -/
def numSumsCard : Claim7 := { stood := { row := numSumsRow, standIns := [], harness := (true, "2e35439ca31a5aee5d202d4b7a677637e3a37fdf101e174e107d31efb39c5162"), looks := true }, kinds := [], alts := [], laidByText := true, laidKinds := [.data, .data, .data, .sentinel, .sentinel], laidTests := true, laidLooks := .later }
def NumSumsCardSaid : Prop := Claim7.holds Tryd.pinned (.plain (OpenSpec.ofChange numSumsSpec)) numSumsCard

/-- THE TIED CARD OF 'haulierlaw01.NumLists'. -/
def numListsCard : Claim7 := { stood := { row := numListsRow, standIns := [], harness := (true, "2e35439ca31a5aee5d202d4b7a677637e3a37fdf101e174e107d31efb39c5162"), looks := true }, kinds := [], alts := [], laidByText := true, laidKinds := [.data, .data, .data, .sentinel, .sentinel], laidTests := true, laidLooks := .later }
def NumListsCardSaid : Prop := Claim7.holds Tryd.pinned (.plain (OpenSpec.ofChange numListsSpec)) numListsCard

/-- THE SECOND FORM's CARD OF 'haulierlaw01.NumTexts'. -/
def numTextsUptoCard : Claim7 := { stood := { row := numTextsUptoRow, standIns := [], harness := (true, "2e35439ca31a5aee5d202d4b7a677637e3a37fdf101e174e107d31efb39c5162"), looks := true }, kinds := [], alts := [], laidByText := true, laidKinds := [.data, .data, .data, .sentinel, .sentinel], laidTests := true, laidLooks := .later }
def NumTextsUptoCardSaid : Prop := Claim7.holds Tryd.pinned (.plain (OpenSpec.upto numTextsSpec)) numTextsUptoCard

/-- THE SECOND FORM's CARD OF 'haulierlaw01.NumBack'. -/
def numBackUptoCard : Claim7 := { stood := { row := numBackUptoRow, standIns := [], harness := (true, "2e35439ca31a5aee5d202d4b7a677637e3a37fdf101e174e107d31efb39c5162"), looks := true }, kinds := [], alts := [], laidByText := true, laidKinds := [.data, .data, .data, .sentinel, .sentinel], laidTests := true, laidLooks := .later }
def NumBackUptoCardSaid : Prop := Claim7.holds Tryd.pinned (.plain (OpenSpec.upto numBackSpec)) numBackUptoCard

/-- THE SECOND FORM's CARD OF 'haulierlaw01.NumReckons'. -/
def numReckonsUptoCard : Claim7 := { stood := { row := numReckonsUptoRow, standIns := [], harness := (true, "2e35439ca31a5aee5d202d4b7a677637e3a37fdf101e174e107d31efb39c5162"), looks := true }, kinds := [], alts := [], laidByText := true, laidKinds := [.data, .data, .data, .sentinel, .sentinel], laidTests := true, laidLooks := .later }
def NumReckonsUptoCardSaid : Prop := Claim7.holds Tryd.pinned (.plain (OpenSpec.upto numReckonsSpec)) numReckonsUptoCard

/-- THE SECOND FORM's CARD OF 'haulierlaw01.NumOrders'. -/
def numOrdersUptoCard : Claim7 := { stood := { row := numOrdersUptoRow, standIns := [], harness := (true, "2e35439ca31a5aee5d202d4b7a677637e3a37fdf101e174e107d31efb39c5162"), looks := true }, kinds := [], alts := [], laidByText := true, laidKinds := [.data, .data, .data, .sentinel, .sentinel], laidTests := true, laidLooks := .later }
def NumOrdersUptoCardSaid : Prop := Claim7.holds Tryd.pinned (.plain (OpenSpec.upto numOrdersSpec)) numOrdersUptoCard

/-- THE SECOND FORM's CARD OF 'haulierlaw01.NumSigns'. -/
def numSignsUptoCard : Claim7 := { stood := { row := numSignsUptoRow, standIns := [], harness := (true, "2e35439ca31a5aee5d202d4b7a677637e3a37fdf101e174e107d31efb39c5162"), looks := true }, kinds := [], alts := [], laidByText := true, laidKinds := [.data, .data, .data, .sentinel, .sentinel], laidTests := true, laidLooks := .later }
def NumSignsUptoCardSaid : Prop := Claim7.holds Tryd.pinned (.plain (OpenSpec.upto numSignsSpec)) numSignsUptoCard

/-- THE SECOND FORM's CARD OF 'haulierlaw01.NumSums'. -/
def numSumsUptoCard : Claim7 := { stood := { row := numSumsUptoRow, standIns := [], harness := (true, "2e35439ca31a5aee5d202d4b7a677637e3a37fdf101e174e107d31efb39c5162"), looks := true }, kinds := [], alts := [], laidByText := true, laidKinds := [.data, .data, .data, .sentinel, .sentinel], laidTests := true, laidLooks := .later }
def NumSumsUptoCardSaid : Prop := Claim7.holds Tryd.pinned (.plain (OpenSpec.upto numSumsSpec)) numSumsUptoCard

/-- THE SECOND FORM's CARD OF 'haulierlaw01.NumLists'. -/
def numListsUptoCard : Claim7 := { stood := { row := numListsUptoRow, standIns := [], harness := (true, "2e35439ca31a5aee5d202d4b7a677637e3a37fdf101e174e107d31efb39c5162"), looks := true }, kinds := [], alts := [], laidByText := true, laidKinds := [.data, .data, .data, .sentinel, .sentinel], laidTests := true, laidLooks := .later }
def NumListsUptoCardSaid : Prop := Claim7.holds Tryd.pinned (.plain (OpenSpec.upto numListsSpec)) numListsUptoCard
end Rows
end Go.Proofs.YtcnhnjajfkgkjaaDoor
