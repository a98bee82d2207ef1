/- Contracts of functions of the given program, each under the conditions that it states (a run of the kit's printer, by hprint.py, with contracts of our own among its functions). -/
import Derived.Test.YtbpjcgahdgpmhaaDoorProg
import Derived.Below
import Derived.Deep.Draws
import Derived.Deep.AppendLies
import Derived.Maps.AppendAt
import Derived.OwnWalk
import Derived.Laws.BytesArg
import Derived.Laws.MakeOwn
import Derived.Laws.OwnMore
import Derived.Deep.OwnRows
import Derived.Tactics
import Derived.Lib.ConvBytes
import Derived.Laws.Slices
import Derived.WalkKit
import Derived.KernelRfl
import Derived.RowKit3
import Derived.Deep.LoopGhost
import Derived.Deep.QuietTactic
import Derived.BigQuiet
import Derived.WideLaws
import Derived.Deep.DeepCutAuto
import Derived.Deep.CutBlock
import Derived.Deep.RegionHeld3
import Derived.Laws.Rows
import Derived.Lib.AppendStr
import Derived.ArgAppend
import Derived.Laws.IdiomCopy
import Derived.OrdersHeld
import Derived.Laws.BitsLemmas
import Derived.RowKit
import Derived.Shelf.Spec.TrailingZeros
import Derived.BigQuiet
import Derived.Deep.QuietTactic
import Derived.Lib.BitFns
import Derived.Test.YtbpjcgahdgpmhaaDoorWWords
import Derived.Test.YtbpjcgahdgpmhaaDoorWLast
import Derived.Test.YtbpjcgahdgpmhaaDoorWTab
import Derived.Test.YtbpjcgahdgpmhaaDoorWFour
import Derived.Test.YtbpjcgahdgpmhaaDoorWQPut
import Derived.Test.YtbpjcgahdgpmhaaDoorWApart
import Derived.Test.YtbpjcgahdgpmhaaDoorWArr
import Derived.Test.YtbpjcgahdgpmhaaDoorWZeros
import Derived.Test.YtbpjcgahdgpmhaaDoorWFoot
import Derived.Test.YtbpjcgahdgpmhaaDoorWKept
import Derived.Test.YtbpjcgahdgpmhaaDoorWShare
import Derived.Test.YtbpjcgahdgpmhaaDoorWN
import Derived.Test.YtbpjcgahdgpmhaaDoorWFootNe
import Derived.Test.YtbpjcgahdgpmhaaDoorWAt
import Derived.Test.YtbpjcgahdgpmhaaDoorWEqStruct
import Derived.Test.YtbpjcgahdgpmhaaDoorWRepsOne
import Derived.Test.YtbpjcgahdgpmhaaDoorWInv
import Derived.Test.YtbpjcgahdgpmhaaDoorWInvWords
import Derived.Test.YtbpjcgahdgpmhaaDoorWGuard
import Derived.Test.YtbpjcgahdgpmhaaDoorWNEv
import Derived.Test.YtbpjcgahdgpmhaaDoorWMore
namespace Go.Proofs.YtbpjcgahdgpmhaaDoor.Own
open Go.RowKit Go.Proofs.YtbpjcgahdgpmhaaDoorW.PrintWords Go.Proofs.YtbpjcgahdgpmhaaDoorW.PrintLast Go.Proofs.YtbpjcgahdgpmhaaDoorW.PrintMore
attribute [local go_sem] max2_int min2_int max_two min_two max_three min_three max_four min_four   -- for this text's walks alone
set_option linter.unusedVariables false
set_option linter.unusedSimpArgs false



def errW : Option Int → Value
  | none => .nilIface
  | some c => .iface 0 (.int .i64 c)
theorem errW_none : errW none = .nilIface := rfl
theorem errW_some (c : Int) : errW (some c) = .iface 0 (.int .i64 c) := rfl

-- the values' own types

end Go.Proofs.YtbpjcgahdgpmhaaDoor.Own
