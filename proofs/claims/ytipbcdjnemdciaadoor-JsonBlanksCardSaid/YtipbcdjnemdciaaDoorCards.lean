/-
  DERIVED. GIVEN WITH THE SEED: THE CARDS: each row of YtipbcdjnemdciaaDoorRows.lean that lists a variable, with what it lists TIED to the program's text (the seventh form; the later family's looks); each row that meets fmt, with fmt's text TOLD by the authors' own Lean function (tested against real Go, not proved from fmt's source: count such statements apart). THE CARD IS WHAT COUNTS. Prove the row's statement (the work); the ties are given (YtipbcdjnemdciaaDoorTie.lean); close each card by the builder's one call (the guide's Derived/Test/ToyasCard.lean, 'card_holds'). Laid BY PROGRAM, IN A SANDBOX (cutbox-door.mjs). By AI agents, Wed Nov 11 2026. No macro, syntax, notation, axiom, sorry.
-/
import Derived.Test.YtipbcdjnemdciaaDoorRows
import GoSem.ClaimSeven
namespace Go.Proofs.YtipbcdjnemdciaaDoor
namespace Rows

/-- THE TIED CARD OF 'haulierlaw02.JsonBlanks'. -/
def jsonBlanksCard : Claim7 := { stood := { row := jsonBlanksRow, standIns := [], harness := (true, "3145a01d47ef68fb8830d7a157964d99fb70a98a35b3e35b1e879e7a93057845"), looks := true }, kinds := [], alts := [], laidByText := true, laidKinds := [.data, .data, .data, .data, .sentinel, .sentinel, .pinned], laidTests := true, laidLooks := .later }
def JsonBlanksCardSaid : Prop := Claim7.holds Tryd.pinned (.plain (OpenSpec.ofChange jsonBlanksSpec)) jsonBlanksCard

/-- THE TIED CARD OF 'haulierlaw02.JsonCuts'. -/
def jsonCutsCard : Claim7 := { stood := { row := jsonCutsRow, standIns := [], harness := (true, "3145a01d47ef68fb8830d7a157964d99fb70a98a35b3e35b1e879e7a93057845"), looks := true }, kinds := [], alts := [], laidByText := true, laidKinds := [.data, .data, .data, .data, .sentinel, .sentinel, .pinned], laidTests := true, laidLooks := .later }
def JsonCutsCardSaid : Prop := Claim7.holds Tryd.pinned (.plain (OpenSpec.ofChange jsonCutsSpec)) jsonCutsCard

/-- THE TIED CARD OF 'haulierlaw02.JsonNests'. -/
def jsonNestsCard : Claim7 := { stood := { row := jsonNestsRow, standIns := [], harness := (true, "3145a01d47ef68fb8830d7a157964d99fb70a98a35b3e35b1e879e7a93057845"), looks := true }, kinds := [], alts := [], laidByText := true, laidKinds := [.data, .data, .data, .data, .sentinel, .sentinel, .pinned], laidTests := true, laidLooks := .later }
def JsonNestsCardSaid : Prop := Claim7.holds Tryd.pinned (.plain (OpenSpec.ofChange jsonNestsSpec)) jsonNestsCard

/-- THE TIED CARD OF 'haulierlaw02.JsonValues'. -/
def jsonValuesCard : Claim7 := { stood := { row := jsonValuesRow, standIns := [], harness := (true, "3145a01d47ef68fb8830d7a157964d99fb70a98a35b3e35b1e879e7a93057845"), looks := true }, kinds := [], alts := [], laidByText := true, laidKinds := [.data, .data, .data, .data, .sentinel, .sentinel, .pinned], laidTests := true, laidLooks := .later }
def JsonValuesCardSaid : Prop := Claim7.holds Tryd.pinned (.plain (OpenSpec.ofChange jsonValuesSpec)) jsonValuesCard

/-- THE TIED CARD OF 'haulierlaw02.JsonNumbers'. -/
def jsonNumbersCard : Claim7 := { stood := { row := jsonNumbersRow, standIns := [], harness := (true, "3145a01d47ef68fb8830d7a157964d99fb70a98a35b3e35b1e879e7a93057845"), looks := true }, kinds := [], alts := [], laidByText := true, laidKinds := [.data, .data, .data, .data, .sentinel, .sentinel, .pinned], laidTests := true, laidLooks := .later }
def JsonNumbersCardSaid : Prop := Claim7.holds Tryd.pinned (.plain (OpenSpec.ofChange jsonNumbersSpec)) jsonNumbersCard

/-- THE TIED CARD OF 'haulierlaw02.JsonEscapes'. -/
def jsonEscapesCard : Claim7 := { stood := { row := jsonEscapesRow, standIns := [], harness := (true, "3145a01d47ef68fb8830d7a157964d99fb70a98a35b3e35b1e879e7a93057845"), looks := true }, kinds := [], alts := [], laidByText := true, laidKinds := [.data, .data, .data, .data, .sentinel, .sentinel, .pinned], laidTests := true, laidLooks := .later }
def JsonEscapesCardSaid : Prop := Claim7.holds Tryd.pinned (.plain (OpenSpec.ofChange jsonEscapesSpec)) jsonEscapesCard

/-- THE SECOND FORM's CARD OF 'haulierlaw02.JsonBlanks'. -/
def jsonBlanksUptoCard : Claim7 := { stood := { row := jsonBlanksUptoRow, standIns := [], harness := (true, "3145a01d47ef68fb8830d7a157964d99fb70a98a35b3e35b1e879e7a93057845"), looks := true }, kinds := [], alts := [], laidByText := true, laidKinds := [.data, .data, .data, .data, .sentinel, .sentinel, .pinned], laidTests := true, laidLooks := .later }
def JsonBlanksUptoCardSaid : Prop := Claim7.holds Tryd.pinned (.plain (OpenSpec.upto jsonBlanksSpec)) jsonBlanksUptoCard

/-- THE SECOND FORM's CARD OF 'haulierlaw02.JsonCuts'. -/
def jsonCutsUptoCard : Claim7 := { stood := { row := jsonCutsUptoRow, standIns := [], harness := (true, "3145a01d47ef68fb8830d7a157964d99fb70a98a35b3e35b1e879e7a93057845"), looks := true }, kinds := [], alts := [], laidByText := true, laidKinds := [.data, .data, .data, .data, .sentinel, .sentinel, .pinned], laidTests := true, laidLooks := .later }
def JsonCutsUptoCardSaid : Prop := Claim7.holds Tryd.pinned (.plain (OpenSpec.upto jsonCutsSpec)) jsonCutsUptoCard

/-- THE SECOND FORM's CARD OF 'haulierlaw02.JsonNests'. -/
def jsonNestsUptoCard : Claim7 := { stood := { row := jsonNestsUptoRow, standIns := [], harness := (true, "3145a01d47ef68fb8830d7a157964d99fb70a98a35b3e35b1e879e7a93057845"), looks := true }, kinds := [], alts := [], laidByText := true, laidKinds := [.data, .data, .data, .data, .sentinel, .sentinel, .pinned], laidTests := true, laidLooks := .later }
def JsonNestsUptoCardSaid : Prop := Claim7.holds Tryd.pinned (.plain (OpenSpec.upto jsonNestsSpec)) jsonNestsUptoCard

/-- THE SECOND FORM's CARD OF 'haulierlaw02.JsonValues'. -/
def jsonValuesUptoCard : Claim7 := { stood := { row := jsonValuesUptoRow, standIns := [], harness := (true, "3145a01d47ef68fb8830d7a157964d99fb70a98a35b3e35b1e879e7a93057845"), looks := true }, kinds := [], alts := [], laidByText := true, laidKinds := [.data, .data, .data, .data, .sentinel, .sentinel, .pinned], laidTests := true, laidLooks := .later }
def JsonValuesUptoCardSaid : Prop := Claim7.holds Tryd.pinned (.plain (OpenSpec.upto jsonValuesSpec)) jsonValuesUptoCard

/-- THE SECOND FORM's CARD OF 'haulierlaw02.JsonNumbers'. -/
def jsonNumbersUptoCard : Claim7 := { stood := { row := jsonNumbersUptoRow, standIns := [], harness := (true, "3145a01d47ef68fb8830d7a157964d99fb70a98a35b3e35b1e879e7a93057845"), looks := true }, kinds := [], alts := [], laidByText := true, laidKinds := [.data, .data, .data, .data, .sentinel, .sentinel, .pinned], laidTests := true, laidLooks := .later }
def JsonNumbersUptoCardSaid : Prop := Claim7.holds Tryd.pinned (.plain (OpenSpec.upto jsonNumbersSpec)) jsonNumbersUptoCard

/-- THE SECOND FORM's CARD OF 'haulierlaw02.JsonEscapes'. -/
def jsonEscapesUptoCard : Claim7 := { stood := { row := jsonEscapesUptoRow, standIns := [], harness := (true, "3145a01d47ef68fb8830d7a157964d99fb70a98a35b3e35b1e879e7a93057845"), looks := true }, kinds := [], alts := [], laidByText := true, laidKinds := [.data, .data, .data, .data, .sentinel, .sentinel, .pinned], laidTests := true, laidLooks := .later }
def JsonEscapesUptoCardSaid : Prop := Claim7.holds Tryd.pinned (.plain (OpenSpec.upto jsonEscapesSpec)) jsonEscapesUptoCard
end Rows
end Go.Proofs.YtipbcdjnemdciaaDoor
