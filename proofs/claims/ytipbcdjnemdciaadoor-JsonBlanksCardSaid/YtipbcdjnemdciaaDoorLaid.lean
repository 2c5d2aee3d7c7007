/- What the rows' condition on package-level variables gives: 'Glob' and 'GlobN'. -/
import Derived.Test.YtipbcdjnemdciaaDoorRows
import Derived.Test.YtipbcdjnemdciaaDoorJson
import Derived.ProofKit
import Derived.LaidMore
import Derived.Stop.Joined
import Derived.Stop.LaidErr
import Derived.Lib.LaidTab
import Derived.Lib.LaidU8T
namespace Go.Proofs.YtipbcdjnemdciaaDoor.Laid
open Go.ChangeShapes Go.WideShapes Go.ChangeAt Go.RowKit Go.Proofs.YtipbcdjnemdciaaDoorW.PrintWords Go.Proofs.YtipbcdjnemdciaaDoor.Np Go.Proofs.YtipbcdjnemdciaaDoor.Js

/-- A table of integers that reads as listed. -/
theorem tab_is {P : Program} {W : World} {name : String} {k : IntKind} {zs : List Int} {g : Nat} {t e : TypeId} {n : Nat}
    (hg : P.globalNamed name = some g) (hty : (P.globals[g]?).map (·.type) = some t) (ht : P.underlying t = some (.array n e)) (he : P.underlying e = some (.int k)) (hce : P.cellsOf e = 1) (hct : P.cellsOf t = n)
    (h : Lib.VarReads P W name (Lib.tabData k zs)) : Lib.TabIs P W name k zs := by
  obtain ⟨g', t', cs, fuel, p, hg', ht', hvar, hd⟩ := h
  obtain rfl := Option.some.inj (hg.symm.trans hg')
  obtain rfl := Option.some.inj (hty.symm.trans ht')
  unfold Lib.TabIs
  rw [hvar, ← Lib.cells_of_tab ht he hce hct hd]

def laid : List (String × DataW Unit) := [("math/bits.deBruijn32tab", Rows.laid_math_bits_deBruijn32tab), ("math/bits.deBruijn64tab", Rows.laid_math_bits_deBruijn64tab), ("internal/strconv.uint64pow10", Rows.laid_internal_strconv_uint64pow10), ("unicode/utf8.acceptRanges", Rows.laid_unicode_utf8_acceptRanges), ("strconv.ErrRange", Rows.laid_strconv_ErrRange), ("strconv.ErrSyntax", Rows.laid_strconv_ErrSyntax), ("unicode/utf8.first", Rows.laid_unicode_utf8_first)]
theorem dataPow : Rows.laid_internal_strconv_uint64pow10 (H := Unit) = Lib.tabData .u64 Lib.pow10Tab := by kernel_rfl
theorem dataAcc : Rows.laid_unicode_utf8_acceptRanges (H := Unit) = Lib.acceptData := by kernel_rfl
theorem dataFirst : Rows.laid_unicode_utf8_first = Lib.firstData := by kernel_rfl
/-- The seat's numbers of the types and variables that the table's law names. -/
def ren : Shelf.Ren := ⟨fun f => f, fun t => if t = 5 then 5 else if t = 119 then 70 else if t = 138 then 72 else 73, fun g => if g = 3 then 0 else 1⟩
theorem types : U8Types Tryd.prog ren := ⟨by kernel_rfl, by kernel_rfl, by kernel_rfl, by kernel_rfl⟩
theorem extra : U8Extra Tryd.prog ren := ⟨by kernel_rfl, by kernel_rfl, by kernel_rfl, by kernel_rfl, by kernel_rfl, by kernel_rfl, by kernel_rfl⟩
theorem star : "*errors.errorString" = "*" ++ "errors.errorString" := by decide +kernel
theorem rowErr (u : TypeId) (h : Tryd.prog.typeName? 3 u = some "*errors.errorString") : u = 91 :=
  typeName_ptr_named (nm := "errors.errorString") (by rw [← star]; kernel_rfl) (by kernel_rfl) (by decide) u (by rw [← star]; exact h)

theorem glob_of_laid {W : World} (h : laidMetH Tryd.prog laid W) : Glob W ∧ GlobN W := by
  rw [MakeChecks.laidMetH_plain _ _ _ (by kernel_rfl)] at h
  have hp := Lib.laidMet.reads h (n := "internal/strconv.uint64pow10") (d := Rows.laid_internal_strconv_uint64pow10) (by simp [laid])
  rw [dataPow] at hp
  have ha := Lib.laidMet.reads h (n := "unicode/utf8.acceptRanges") (d := Rows.laid_unicode_utf8_acceptRanges) (by simp [laid])
  rw [dataAcc] at ha
  have hf := Lib.laidMet.reads h (n := "unicode/utf8.first") (d := Rows.laid_unicode_utf8_first) (by simp [laid])
  rw [dataFirst] at hf
  have h3 : laidMet Tryd.prog [("strconv.ErrRange", Rows.laid_strconv_ErrRange), ("strconv.ErrSyntax", Rows.laid_strconv_ErrSyntax), ("unicode/utf8.first", Rows.laid_unicode_utf8_first)] W := laidMet.tail (laidMet.tail (laidMet.tail (laidMet.tail h)))
  obtain ⟨a1, s1, v1, _⟩ := laid_sentinel h3 (g := 3) (ti := 66) (tp := 91) (te := 93) (ts := 9) (by kernel_rfl) (by kernel_rfl) Tryd.underlying66 rowErr Tryd.underlying91 Tryd.underlying93 rfl rfl Tryd.underlying9 (by kernel_rfl) (by kernel_rfl)
  obtain ⟨a2, s2, v2, _⟩ := laid_sentinel (laidMet.tail h3) (g := 2) (ti := 66) (tp := 91) (te := 93) (ts := 9) (by kernel_rfl) (by kernel_rfl) Tryd.underlying66 rowErr Tryd.underlying91 Tryd.underlying93 rfl rfl Tryd.underlying9 (by kernel_rfl) (by kernel_rfl)
  have hpt := tab_is (P := Tryd.prog) (g := 4) (t := 101) (e := 81) (n := 20) (by kernel_rfl) (by kernel_rfl) Tryd.underlying101 Tryd.underlying81 (by kernel_rfl) (by kernel_rfl) hp
  exact ⟨⟨hpt, utf8Tabs_of_readsT types extra hf ha⟩, hpt, ⟨_, _, v2⟩, _, _, v1⟩

def firstCells : Array Value := (Go.Pinned.utf8FirstZ.map fun (n : Nat) => Value.int .u8 (n : Int)).toArray
/-- The heap that the door's own run leaves, utf8's table in its place (its text is pinned, not in the dump). -/
noncomputable def door (os : Os) : World := { World.doorLaid Tryd.prog 72 os with heap := (World.doorLaid Tryd.prog 72 os).heap.modify 0 fun o => match o with | .cells _ t fz => .cells firstCells t fz | o => o }
theorem door_met (os : Os) (args : Array Value) : laidMetH Tryd.prog laid ((door os).forCall (fun _ _ => 0) ⟨#[], args, []⟩).memory :=
  laidMetH_of_parts3 (fuel := 8) (laidMet_of_run' 8 (by kernel_rfl) (by kernel_rfl)) (by kernel_rfl) (by kernel_rfl)

end Go.Proofs.YtipbcdjnemdciaaDoor.Laid
