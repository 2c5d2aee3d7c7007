/- What the package-level tables hold that the layer's functions read: the powers of ten, and unicode/utf8's two tables. -/
import Derived.Test.YtipbcdjnemdciaaDoorProg
import Derived.Test.YtipbcdjnemdciaaDoorWWords
import Derived.Test.YtipbcdjnemdciaaDoorWMore
import Derived.WalkKit
import Derived.KernelRfl
import Derived.WalkLawsBesides
import Derived.Lib.LaidTab
import Derived.Lib.ItoaNum
import Derived.Shelf.Unicode.DecodeSlow
namespace Go.Proofs.YtipbcdjnemdciaaDoor
open Go.RowKit Go.Proofs.YtipbcdjnemdciaaDoorW.PrintWords

def Glob (w : World) : Prop := Lib.TabIs Tryd.prog w "internal/strconv.uint64pow10" .u64 Lib.pow10Tab ∧ Lib.Utf8Tabs 0 1 w
theorem g_pow : Tryd.prog.globalNamed "internal/strconv.uint64pow10" = some 4 := by kernel_rfl
theorem var_below {n : String} {g : Nat} {cs : Array Value} {w w' : World} (hb : Below w.heap.size w w') (hg : Tryd.prog.globalNamed n = some g) (hne : 0 < cs.size) (hv : w.var? Tryd.prog n = some cs) : w'.var? Tryd.prog n = some cs := by
  refine var?_below hb hg ?_ hv
  have h := World.var?_cell hg hv 0
  rw [Array.getElem?_eq_getElem hne] at h
  exact World.block_lt_of_cell? w _ h
theorem Glob.below {w w' : World} (h : Glob w) (hb : Below w.heap.size w w') : Glob w' := ⟨var_below hb g_pow (by decide +kernel) h.1, Utf8Tabs_below h.2 hb⟩
theorem Glob.drewN {w : World} (h : Glob w) (n : Nat) : Glob (w.drewN n) := h.below (pw_below_drewN (Below.refl _ _) n)
theorem Glob.drew {w : World} (h : Glob w) : Glob w.drew := h.below (below_drew (Below.refl _ _))

end Go.Proofs.YtipbcdjnemdciaaDoor
