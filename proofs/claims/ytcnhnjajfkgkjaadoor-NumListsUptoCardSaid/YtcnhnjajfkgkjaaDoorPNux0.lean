-- Laid by wip/mk/mk.py of this session (the kit's printer with this session's contracts for library functions).
import Derived.Test.YtcnhnjajfkgkjaaDoorProg
import Derived.Below
import Derived.Deep.Draws
import Derived.Deep.AppendLies
import Derived.Maps.AppendAt
import Derived.OwnWalk
import Derived.Laws.BytesArg
import Derived.Laws.MakeOwn
import Derived.Laws.OwnMore
import Derived.Deep.OwnRows
import Derived.Tactics
import Derived.Lib.ConvBytes
import Derived.Laws.Slices
import Derived.WalkKit
import Derived.KernelRfl
import Derived.RowKit3
import Derived.Deep.LoopGhost
import Derived.Deep.QuietTactic
import Derived.BigQuiet
import Derived.WideLaws
import Derived.Deep.DeepCutAuto
import Derived.Deep.CutBlock
import Derived.Deep.RegionHeld3
import Derived.Laws.Rows
import Derived.Lib.AppendStr
import Derived.ArgAppend
import Derived.Laws.IdiomCopy
import Derived.OrdersHeld
import Derived.Laws.BitsLemmas
import Derived.RowKit
import Derived.Test.YtcnhnjajfkgkjaaDoorStub
import Derived.Test.YtcnhnjajfkgkjaaDoorWWords
import Derived.Test.YtcnhnjajfkgkjaaDoorWLast
import Derived.Test.YtcnhnjajfkgkjaaDoorWTab
import Derived.Test.YtcnhnjajfkgkjaaDoorWFour
import Derived.Test.YtcnhnjajfkgkjaaDoorWQPut
import Derived.Test.YtcnhnjajfkgkjaaDoorWApart
import Derived.Test.YtcnhnjajfkgkjaaDoorWArr
import Derived.Test.YtcnhnjajfkgkjaaDoorWZeros
import Derived.Test.YtcnhnjajfkgkjaaDoorWFoot
import Derived.Test.YtcnhnjajfkgkjaaDoorWKept
import Derived.Test.YtcnhnjajfkgkjaaDoorWShare
import Derived.Test.YtcnhnjajfkgkjaaDoorWN
import Derived.Test.YtcnhnjajfkgkjaaDoorWFootNe
import Derived.Test.YtcnhnjajfkgkjaaDoorWAt
import Derived.Test.YtcnhnjajfkgkjaaDoorWEqStruct
import Derived.Test.YtcnhnjajfkgkjaaDoorWRepsOne
import Derived.Test.YtcnhnjajfkgkjaaDoorWInv
import Derived.Test.YtcnhnjajfkgkjaaDoorWInvWords
import Derived.Test.YtcnhnjajfkgkjaaDoorWGuard
import Derived.Test.YtcnhnjajfkgkjaaDoorWNEv
import Derived.Test.YtcnhnjajfkgkjaaDoorWMore
namespace Go.Proofs.YtcnhnjajfkgkjaaDoor.PNu
open Go.RowKit Go.Proofs.YtcnhnjajfkgkjaaDoorW.PrintWords Go.Proofs.YtcnhnjajfkgkjaaDoorW.PrintLast Go.Proofs.YtcnhnjajfkgkjaaDoorW.PrintMore
attribute [local go_sem] max2_int min2_int max_two min_two max_three min_three max_four min_four   -- for this text's walks alone
set_option linter.unusedVariables false
set_option linter.unusedSimpArgs false



def errW : Option Int → Value
  | none => .nilIface
  | some c => .iface 0 (.int .i64 c)
theorem errW_none : errW none = .nilIface := rfl
theorem errW_some (c : Int) : errW (some c) = .iface 0 (.int .i64 c) := rfl

theorem info3 : (Tryd.prog.info? 3).map (fun i => (i.zero, i.size, i.bytes)) = some (some (.int .i64 0), 1, 8) := by kernel_rfl
theorem info5 : (Tryd.prog.info? 5).map (fun i => (i.zero, i.size, i.bytes)) = some (some (.int .u8 0), 1, 1) := by kernel_rfl
-- the values' own types

end Go.Proofs.YtcnhnjajfkgkjaaDoor.PNu
