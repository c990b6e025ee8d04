-- Written by a program of this session (xprint) out of the translation; over contracts proved by hand.
import Derived.Test.YtpmkegkgaalfhaaProg
import Derived.Below
import Derived.Deep.Draws
import Derived.Deep.AppendLies
import Derived.Maps.AppendAt
import Derived.OwnWalk
import Derived.Laws.BytesArg
import Derived.Laws.MakeOwn
import Derived.Laws.OwnMore
import Derived.Deep.OwnRows
import Derived.Tactics
import Derived.Lib.ConvBytes
import Derived.Laws.Slices
import Derived.WalkKit
import Derived.KernelRfl
import Derived.RowKit3
import Derived.Deep.LoopGhost
import Derived.Deep.QuietTactic
import Derived.BigQuiet
import Derived.WideLaws
import Derived.Deep.DeepCutAuto
import Derived.Deep.CutBlock
import Derived.Deep.RegionHeld3
import Derived.Laws.Rows
import Derived.Lib.AppendStr
import Derived.ArgAppend
import Derived.Laws.IdiomCopy
import Derived.OrdersHeld
import Derived.Laws.BitsLemmas
import Derived.RowKit
import Derived.Test.YtpmkegkgaalfhaaWWords
import Derived.Test.YtpmkegkgaalfhaaWLast
import Derived.Test.YtpmkegkgaalfhaaWTab
import Derived.Test.YtpmkegkgaalfhaaWFour
import Derived.Test.YtpmkegkgaalfhaaWQPut
import Derived.Test.YtpmkegkgaalfhaaWApart
import Derived.Test.YtpmkegkgaalfhaaWArr
import Derived.Test.YtpmkegkgaalfhaaWZeros
import Derived.Test.YtpmkegkgaalfhaaWFoot
import Derived.Test.YtpmkegkgaalfhaaWKept
import Derived.Test.YtpmkegkgaalfhaaWShare
import Derived.Test.YtpmkegkgaalfhaaWN
import Derived.Test.YtpmkegkgaalfhaaWFootNe
import Derived.Test.YtpmkegkgaalfhaaWAt
import Derived.Test.YtpmkegkgaalfhaaWEqStruct
import Derived.Test.YtpmkegkgaalfhaaWRepsOne
import Derived.Test.YtpmkegkgaalfhaaWInv
import Derived.Test.YtpmkegkgaalfhaaWInvWords
import Derived.Test.YtpmkegkgaalfhaaWGuard
import Derived.Test.YtpmkegkgaalfhaaWNEv
import Derived.Test.YtpmkegkgaalfhaaWMore
namespace Go.Proofs.Ytpmkegkgaalfhaa.New
end Go.Proofs.Ytpmkegkgaalfhaa.New
namespace Go.Proofs.Ytpmkegkgaalfhaa.Q
open Go.Proofs.Ytpmkegkgaalfhaa.New
set_option linter.unnecessarySimpa false
open Go.RowKit Go.Proofs.YtpmkegkgaalfhaaW.PrintWords Go.Proofs.YtpmkegkgaalfhaaW.PrintLast Go.Proofs.YtpmkegkgaalfhaaW.PrintMore
attribute [local go_sem] max2_int min2_int max_two min_two max_three min_three max_four min_four   -- for this text's walks alone
set_option linter.unusedVariables false
set_option linter.unusedSimpArgs false



def errW : Option Int → Value
  | none => .nilIface
  | some c => .iface 0 (.int .i64 c)
theorem errW_none : errW none = .nilIface := rfl
theorem errW_some (c : Int) : errW (some c) = .iface 0 (.int .i64 c) := rfl

theorem info5 : (Try.prog.info? 5).map (fun i => (i.zero, i.size, i.bytes)) = some (some (.int .u8 0), 1, 1) := by kernel_rfl
-- the values' own types

end Go.Proofs.Ytpmkegkgaalfhaa.Q
