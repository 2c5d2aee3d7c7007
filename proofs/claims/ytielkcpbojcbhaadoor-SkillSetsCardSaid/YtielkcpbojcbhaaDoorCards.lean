/-
  DERIVED. GIVEN WITH THE SEED: THE CARDS: each row of YtielkcpbojcbhaaDoorRows.lean that lists a variable, with what it lists TIED to the program's text (the seventh form; the later family's looks); each row that meets fmt, with fmt's text TOLD by the authors' own Lean function (tested against real Go, not proved from fmt's source: count such statements apart). THE CARD IS WHAT COUNTS. Prove the row's statement (the work); the ties are given (YtielkcpbojcbhaaDoorTie.lean); close each card by the builder's one call (the guide's Derived/Test/ToyasCard.lean, 'card_holds'). Laid BY PROGRAM, IN A SANDBOX (cutbox-door.mjs). By AI agents, Wed Nov 11 2026. No macro, syntax, notation, axiom, sorry.
-/
import Derived.Test.YtielkcpbojcbhaaDoorRows
import GoSem.ClaimSeven
namespace Go.Proofs.YtielkcpbojcbhaaDoor
namespace Rows

/-- THE TIED CARD OF 'haulierlaw10.SkillSets'. -/
def skillSetsCard : Claim7 := { stood := { row := skillSetsRow, standIns := [], harness := (true, "4abfbf7e19dcb30195e652f81e70777034d834ef6b2ed1175a91f35fbb666cdf"), looks := false }, kinds := [], alts := [], laidByText := true, laidKinds := [.data], laidTests := true, laidLooks := .later }
def SkillSetsCardSaid : Prop := Claim7.holds Tryd.pinned (.plain (OpenSpec.ofChange skillSetsSpec)) skillSetsCard

/-- THE TIED CARD OF 'haulierlaw10.SkillBack'. -/
def skillBackCard : Claim7 := { stood := { row := skillBackRow, standIns := [], harness := (true, "4abfbf7e19dcb30195e652f81e70777034d834ef6b2ed1175a91f35fbb666cdf"), looks := false }, kinds := [], alts := [], laidByText := true, laidKinds := [.data], laidTests := true, laidLooks := .later }
def SkillBackCardSaid : Prop := Claim7.holds Tryd.pinned (.plain (OpenSpec.ofChange skillBackSpec)) skillBackCard

/-- THE SECOND FORM's CARD OF 'haulierlaw10.SkillSets'. -/
def skillSetsUptoCard : Claim7 := { stood := { row := skillSetsUptoRow, standIns := [], harness := (true, "4abfbf7e19dcb30195e652f81e70777034d834ef6b2ed1175a91f35fbb666cdf"), looks := false }, kinds := [], alts := [], laidByText := true, laidKinds := [.data], laidTests := true, laidLooks := .later }
def SkillSetsUptoCardSaid : Prop := Claim7.holds Tryd.pinned (.plain (OpenSpec.upto skillSetsSpec)) skillSetsUptoCard

/-- THE SECOND FORM's CARD OF 'haulierlaw10.SkillBack'. -/
def skillBackUptoCard : Claim7 := { stood := { row := skillBackUptoRow, standIns := [], harness := (true, "4abfbf7e19dcb30195e652f81e70777034d834ef6b2ed1175a91f35fbb666cdf"), looks := false }, kinds := [], alts := [], laidByText := true, laidKinds := [.data], laidTests := true, laidLooks := .later }
def SkillBackUptoCardSaid : Prop := Claim7.holds Tryd.pinned (.plain (OpenSpec.upto skillBackSpec)) skillBackUptoCard
end Rows
end Go.Proofs.YtielkcpbojcbhaaDoor
