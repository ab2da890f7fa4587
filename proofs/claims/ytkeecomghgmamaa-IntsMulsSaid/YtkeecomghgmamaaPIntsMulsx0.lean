/- Contracts of Go functions of this claim, and the Lean functions that they come to. -/
import Derived.Test.YtkeecomghgmamaaProg
import Derived.Below
import Derived.Deep.Draws
import Derived.Deep.AppendLies
import Derived.Maps.AppendAt
import Derived.OwnWalk
import Derived.Laws.BytesArg
import Derived.Laws.MakeOwn
import Derived.Laws.OwnMore
import Derived.Deep.OwnRows
import Derived.Tactics
import Derived.Lib.ConvBytes
import Derived.Laws.Slices
import Derived.WalkKit
import Derived.KernelRfl
import Derived.RowKit3
import Derived.Deep.LoopGhost
import Derived.Deep.QuietTactic
import Derived.BigQuiet
import Derived.WideLaws
import Derived.Deep.DeepCutAuto
import Derived.Deep.CutBlock
import Derived.Deep.RegionHeld3
import Derived.Laws.Rows
import Derived.Lib.AppendStr
import Derived.ArgAppend
import Derived.Laws.IdiomCopy
import Derived.OrdersHeld
import Derived.Laws.BitsLemmas
import Derived.RowKit
import Derived.Lib.OthersKept
import Derived.WalkSpells
import Derived.Laws.MathBits
import Derived.Lib.Mul64
import Derived.Test.YtkeecomghgmamaaWWords
import Derived.Test.YtkeecomghgmamaaWLast
import Derived.Test.YtkeecomghgmamaaWTab
import Derived.Test.YtkeecomghgmamaaWFour
import Derived.Test.YtkeecomghgmamaaWQPut
import Derived.Test.YtkeecomghgmamaaWApart
import Derived.Test.YtkeecomghgmamaaWArr
import Derived.Test.YtkeecomghgmamaaWZeros
import Derived.Test.YtkeecomghgmamaaWFoot
import Derived.Test.YtkeecomghgmamaaWKept
import Derived.Test.YtkeecomghgmamaaWShare
import Derived.Test.YtkeecomghgmamaaWN
import Derived.Test.YtkeecomghgmamaaWFootNe
import Derived.Test.YtkeecomghgmamaaWAt
import Derived.Test.YtkeecomghgmamaaWEqStruct
import Derived.Test.YtkeecomghgmamaaWRepsOne
import Derived.Test.YtkeecomghgmamaaWInv
import Derived.Test.YtkeecomghgmamaaWInvWords
import Derived.Test.YtkeecomghgmamaaWGuard
import Derived.Test.YtkeecomghgmamaaWNEv
import Derived.Test.YtkeecomghgmamaaWMore
namespace Go.Proofs.Ytkeecomghgmamaa.PIntsMuls
open Go.RowKit Go.Proofs.YtkeecomghgmamaaW.PrintWords Go.Proofs.YtkeecomghgmamaaW.PrintLast Go.Proofs.YtkeecomghgmamaaW.PrintMore
attribute [local go_sem] max2_int min2_int max_two min_two max_three min_three max_four min_four   -- for this text's walks alone
set_option linter.unusedVariables false
set_option linter.unusedSimpArgs false



def errW : Option Int → Value
  | none => .nilIface
  | some c => .iface 0 (.int .i64 c)
theorem errW_none : errW none = .nilIface := rfl
theorem errW_some (c : Int) : errW (some c) = .iface 0 (.int .i64 c) := rfl

theorem info3 : (Try.prog.info? 3).map (fun i => (i.zero, i.size, i.bytes)) = some (some (.int .i64 0), 1, 8) := by kernel_rfl
-- the values' own types

end Go.Proofs.Ytkeecomghgmamaa.PIntsMuls
