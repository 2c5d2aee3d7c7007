-- Laid by wip/mk/mk.py of this session (the kit's printer with this session's contracts for library functions).
import Derived.Test.YtielkcpbojcbhaaDoorProg
import Derived.Below
import Derived.Deep.Draws
import Derived.Deep.AppendLies
import Derived.Maps.AppendAt
import Derived.OwnWalk
import Derived.Laws.BytesArg
import Derived.Laws.MakeOwn
import Derived.Laws.OwnMore
import Derived.Deep.OwnRows
import Derived.Tactics
import Derived.Lib.ConvBytes
import Derived.Laws.Slices
import Derived.WalkKit
import Derived.KernelRfl
import Derived.RowKit3
import Derived.Deep.LoopGhost
import Derived.Deep.QuietTactic
import Derived.BigQuiet
import Derived.WideLaws
import Derived.Deep.DeepCutAuto
import Derived.Deep.CutBlock
import Derived.Deep.RegionHeld3
import Derived.Laws.Rows
import Derived.Lib.AppendStr
import Derived.ArgAppend
import Derived.Laws.IdiomCopy
import Derived.OrdersHeld
import Derived.Laws.BitsLemmas
import Derived.RowKit
import Derived.Test.YtielkcpbojcbhaaDoorStub
import Derived.Test.YtielkcpbojcbhaaDoorWWords
import Derived.Test.YtielkcpbojcbhaaDoorWLast
import Derived.Test.YtielkcpbojcbhaaDoorWTab
import Derived.Test.YtielkcpbojcbhaaDoorWFour
import Derived.Test.YtielkcpbojcbhaaDoorWQPut
import Derived.Test.YtielkcpbojcbhaaDoorWApart
import Derived.Test.YtielkcpbojcbhaaDoorWArr
import Derived.Test.YtielkcpbojcbhaaDoorWZeros
import Derived.Test.YtielkcpbojcbhaaDoorWFoot
import Derived.Test.YtielkcpbojcbhaaDoorWKept
import Derived.Test.YtielkcpbojcbhaaDoorWShare
import Derived.Test.YtielkcpbojcbhaaDoorWN
import Derived.Test.YtielkcpbojcbhaaDoorWFootNe
import Derived.Test.YtielkcpbojcbhaaDoorWAt
import Derived.Test.YtielkcpbojcbhaaDoorWEqStruct
import Derived.Test.YtielkcpbojcbhaaDoorWRepsOne
import Derived.Test.YtielkcpbojcbhaaDoorWInv
import Derived.Test.YtielkcpbojcbhaaDoorWInvWords
import Derived.Test.YtielkcpbojcbhaaDoorWGuard
import Derived.Test.YtielkcpbojcbhaaDoorWNEv
import Derived.Test.YtielkcpbojcbhaaDoorWMore
namespace Go.Proofs.YtielkcpbojcbhaaDoor.PSk
open Go.RowKit Go.Proofs.YtielkcpbojcbhaaDoorW.PrintWords Go.Proofs.YtielkcpbojcbhaaDoorW.PrintLast Go.Proofs.YtielkcpbojcbhaaDoorW.PrintMore
attribute [local go_sem] max2_int min2_int max_two min_two max_three min_three max_four min_four   -- for this text's walks alone
set_option linter.unusedVariables false
set_option linter.unusedSimpArgs false



def errW : Option Int → Value
  | none => .nilIface
  | some c => .iface 0 (.int .i64 c)
theorem errW_none : errW none = .nilIface := rfl
theorem errW_some (c : Int) : errW (some c) = .iface 0 (.int .i64 c) := rfl

theorem info3 : (Tryd.prog.info? 3).map (fun i => (i.zero, i.size, i.bytes)) = some (some (.int .i64 0), 1, 8) := by kernel_rfl
-- the values' own types

end Go.Proofs.YtielkcpbojcbhaaDoor.PSk
