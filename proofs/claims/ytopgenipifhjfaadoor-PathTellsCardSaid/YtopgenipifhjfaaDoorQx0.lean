-- Written by a program of this session (xprint) out of the translation; over contracts proved by hand.
import Derived.Test.YtopgenipifhjfaaDoorProg
import Derived.Below
import Derived.Deep.Draws
import Derived.Deep.AppendLies
import Derived.Maps.AppendAt
import Derived.OwnWalk
import Derived.Laws.BytesArg
import Derived.Laws.MakeOwn
import Derived.Laws.OwnMore
import Derived.Deep.OwnRows
import Derived.Tactics
import Derived.Lib.ConvBytes
import Derived.Laws.Slices
import Derived.WalkKit
import Derived.KernelRfl
import Derived.RowKit3
import Derived.Deep.LoopGhost
import Derived.Deep.QuietTactic
import Derived.BigQuiet
import Derived.WideLaws
import Derived.Deep.DeepCutAuto
import Derived.Deep.CutBlock
import Derived.Deep.RegionHeld3
import Derived.Laws.Rows
import Derived.Lib.AppendStr
import Derived.ArgAppend
import Derived.Laws.IdiomCopy
import Derived.OrdersHeld
import Derived.Laws.BitsLemmas
import Derived.RowKit
import Derived.Test.YtopgenipifhjfaaDoorWWords
import Derived.Test.YtopgenipifhjfaaDoorWLast
import Derived.Test.YtopgenipifhjfaaDoorWTab
import Derived.Test.YtopgenipifhjfaaDoorWFour
import Derived.Test.YtopgenipifhjfaaDoorWQPut
import Derived.Test.YtopgenipifhjfaaDoorWApart
import Derived.Test.YtopgenipifhjfaaDoorWArr
import Derived.Test.YtopgenipifhjfaaDoorWZeros
import Derived.Test.YtopgenipifhjfaaDoorWFoot
import Derived.Test.YtopgenipifhjfaaDoorWKept
import Derived.Test.YtopgenipifhjfaaDoorWShare
import Derived.Test.YtopgenipifhjfaaDoorWN
import Derived.Test.YtopgenipifhjfaaDoorWFootNe
import Derived.Test.YtopgenipifhjfaaDoorWAt
import Derived.Test.YtopgenipifhjfaaDoorWEqStruct
import Derived.Test.YtopgenipifhjfaaDoorWRepsOne
import Derived.Test.YtopgenipifhjfaaDoorWInv
import Derived.Test.YtopgenipifhjfaaDoorWInvWords
import Derived.Test.YtopgenipifhjfaaDoorWGuard
import Derived.Test.YtopgenipifhjfaaDoorWNEv
import Derived.Test.YtopgenipifhjfaaDoorWMore
namespace Go.Proofs.YtopgenipifhjfaaDoor.Itoa
end Go.Proofs.YtopgenipifhjfaaDoor.Itoa
namespace Go.Proofs.YtopgenipifhjfaaDoor.Split
end Go.Proofs.YtopgenipifhjfaaDoor.Split
namespace Go.Proofs.YtopgenipifhjfaaDoor.Q
open Go.Proofs.YtopgenipifhjfaaDoor.Itoa Go.Proofs.YtopgenipifhjfaaDoor.Split
set_option linter.unnecessarySimpa false
open Go.RowKit Go.Proofs.YtopgenipifhjfaaDoorW.PrintWords Go.Proofs.YtopgenipifhjfaaDoorW.PrintLast Go.Proofs.YtopgenipifhjfaaDoorW.PrintMore
attribute [local go_sem] max2_int min2_int max_two min_two max_three min_three max_four min_four   -- for this text's walks alone
set_option linter.unusedVariables false
set_option linter.unusedSimpArgs false



def errW : Option Int → Value
  | none => .nilIface
  | some c => .iface 0 (.int .i64 c)
theorem errW_none : errW none = .nilIface := rfl
theorem errW_some (c : Int) : errW (some c) = .iface 0 (.int .i64 c) := rfl

theorem info5 : (Tryd.prog.info? 5).map (fun i => (i.zero, i.size, i.bytes)) = some (some (.int .u8 0), 1, 1) := by kernel_rfl
theorem info9 : (Tryd.prog.info? 9).map (fun i => (i.zero, i.size, i.bytes)) = some (some (.string ⟨#[]⟩), 1, 16) := by kernel_rfl
-- the values' own types

end Go.Proofs.YtopgenipifhjfaaDoor.Q
