/- Printed by a program of the session's own (wip/myprint.sh): the kit's printer, with texts of the session's own for some functions. -/
import Derived.Test.YthfaacheolhjnaaDoorProg
import Derived.Below
import Derived.Deep.Draws
import Derived.Deep.AppendLies
import Derived.Maps.AppendAt
import Derived.OwnWalk
import Derived.Laws.BytesArg
import Derived.Laws.MakeOwn
import Derived.Laws.OwnMore
import Derived.Deep.OwnRows
import Derived.Tactics
import Derived.Lib.ConvBytes
import Derived.Laws.Slices
import Derived.WalkKit
import Derived.KernelRfl
import Derived.RowKit3
import Derived.Deep.LoopGhost
import Derived.Deep.QuietTactic
import Derived.BigQuiet
import Derived.WideLaws
import Derived.Deep.DeepCutAuto
import Derived.Deep.CutBlock
import Derived.Deep.RegionHeld3
import Derived.Laws.Rows
import Derived.Lib.AppendStr
import Derived.ArgAppend
import Derived.Laws.IdiomCopy
import Derived.OrdersHeld
import Derived.Laws.BitsLemmas
import Derived.RowKit
import Derived.Lib.ItoaNum
import Derived.Lib.ItoaWalk
import Derived.Lib.Strings
import Derived.Lib.Walk
import Derived.Lib.Hide
import Derived.Deep.QuietTactic
import Derived.Test.YthfaacheolhjnaaDoorWWords
import Derived.Test.YthfaacheolhjnaaDoorWLast
import Derived.Test.YthfaacheolhjnaaDoorWTab
import Derived.Test.YthfaacheolhjnaaDoorWFour
import Derived.Test.YthfaacheolhjnaaDoorWQPut
import Derived.Test.YthfaacheolhjnaaDoorWApart
import Derived.Test.YthfaacheolhjnaaDoorWArr
import Derived.Test.YthfaacheolhjnaaDoorWZeros
import Derived.Test.YthfaacheolhjnaaDoorWFoot
import Derived.Test.YthfaacheolhjnaaDoorWKept
import Derived.Test.YthfaacheolhjnaaDoorWShare
import Derived.Test.YthfaacheolhjnaaDoorWN
import Derived.Test.YthfaacheolhjnaaDoorWFootNe
import Derived.Test.YthfaacheolhjnaaDoorWAt
import Derived.Test.YthfaacheolhjnaaDoorWEqStruct
import Derived.Test.YthfaacheolhjnaaDoorWRepsOne
import Derived.Test.YthfaacheolhjnaaDoorWInv
import Derived.Test.YthfaacheolhjnaaDoorWInvWords
import Derived.Test.YthfaacheolhjnaaDoorWGuard
import Derived.Test.YthfaacheolhjnaaDoorWNEv
import Derived.Test.YthfaacheolhjnaaDoorWMore
namespace Go.Proofs.YthfaacheolhjnaaDoor.MStampSteps
open Go.RowKit Go.Proofs.YthfaacheolhjnaaDoorW.PrintWords Go.Proofs.YthfaacheolhjnaaDoorW.PrintLast Go.Proofs.YthfaacheolhjnaaDoorW.PrintMore
attribute [local go_sem] max2_int min2_int max_two min_two max_three min_three max_four min_four   -- for this text's walks alone
set_option linter.unusedVariables false
set_option linter.unusedSimpArgs false



def errW : Option Int → Value
  | none => .nilIface
  | some c => .iface 0 (.int .i64 c)
theorem errW_none : errW none = .nilIface := rfl
theorem errW_some (c : Int) : errW (some c) = .iface 0 (.int .i64 c) := rfl

-- the values' own types

end Go.Proofs.YthfaacheolhjnaaDoor.MStampSteps
