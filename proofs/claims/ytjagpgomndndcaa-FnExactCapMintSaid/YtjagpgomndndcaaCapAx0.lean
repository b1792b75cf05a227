/- Walks, by a program: each contract says that the call of a Go function returns what the Lean function ahead of it computes. No other condition. -/
import Derived.Test.YtjagpgomndndcaaProg
import Derived.Below
import Derived.Deep.Draws
import Derived.Deep.AppendLies
import Derived.Maps.AppendAt
import Derived.OwnWalk
import Derived.Laws.BytesArg
import Derived.Laws.MakeOwn
import Derived.Laws.OwnMore
import Derived.Deep.OwnRows
import Derived.Tactics
import Derived.Lib.ConvBytes
import Derived.Laws.Slices
import Derived.WalkKit
import Derived.KernelRfl
import Derived.RowKit3
import Derived.Deep.LoopGhost
import Derived.Deep.QuietTactic
import Derived.BigQuiet
import Derived.WideLaws
import Derived.Deep.DeepCutAuto
import Derived.Deep.CutBlock
import Derived.Deep.RegionHeld3
import Derived.Laws.Rows
import Derived.Lib.AppendStr
import Derived.ArgAppend
import Derived.Laws.IdiomCopy
import Derived.OrdersHeld
import Derived.Laws.BitsLemmas
import Derived.RowKit
import Derived.Test.YtjagpgomndndcaaWWords
import Derived.Test.YtjagpgomndndcaaWLast
import Derived.Test.YtjagpgomndndcaaWTab
import Derived.Test.YtjagpgomndndcaaWFour
import Derived.Test.YtjagpgomndndcaaWQPut
import Derived.Test.YtjagpgomndndcaaWApart
import Derived.Test.YtjagpgomndndcaaWArr
import Derived.Test.YtjagpgomndndcaaWZeros
import Derived.Test.YtjagpgomndndcaaWFoot
import Derived.Test.YtjagpgomndndcaaWKept
import Derived.Test.YtjagpgomndndcaaWShare
import Derived.Test.YtjagpgomndndcaaWN
import Derived.Test.YtjagpgomndndcaaWFootNe
import Derived.Test.YtjagpgomndndcaaWAt
import Derived.Test.YtjagpgomndndcaaWEqStruct
import Derived.Test.YtjagpgomndndcaaWRepsOne
import Derived.Test.YtjagpgomndndcaaWInv
import Derived.Test.YtjagpgomndndcaaWInvWords
import Derived.Test.YtjagpgomndndcaaWGuard
import Derived.Test.YtjagpgomndndcaaWNEv
import Derived.Test.YtjagpgomndndcaaWMore
namespace Go.Proofs.Ytjagpgomndndcaa.CapA
open Go.RowKit Go.Proofs.YtjagpgomndndcaaW.PrintWords Go.Proofs.YtjagpgomndndcaaW.PrintLast Go.Proofs.YtjagpgomndndcaaW.PrintMore
attribute [local go_sem] max2_int min2_int max_two min_two max_three min_three max_four min_four   -- for this text's walks alone
set_option linter.unusedVariables false
set_option linter.unusedSimpArgs false



def errW : Option Int → Value
  | none => .nilIface
  | some c => .iface 0 (.int .i64 c)
theorem errW_none : errW none = .nilIface := rfl
theorem errW_some (c : Int) : errW (some c) = .iface 0 (.int .i64 c) := rfl

-- the values' own types

end Go.Proofs.Ytjagpgomndndcaa.CapA
