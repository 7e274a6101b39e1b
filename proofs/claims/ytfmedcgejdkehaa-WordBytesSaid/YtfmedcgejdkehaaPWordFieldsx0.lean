-- PRINTED BY print.sh 35421559b90ae4d0a3588c463048766b98c2df88dd9212a6774a882060cdf62d: not written by this session
import Derived.Test.YtfmedcgejdkehaaProg
import Derived.Below
import Derived.Deep.Draws
import Derived.Deep.AppendLies
import Derived.Maps.AppendAt
import Derived.OwnWalk
import Derived.Laws.BytesArg
import Derived.Laws.MakeOwn
import Derived.Laws.OwnMore
import Derived.Deep.OwnRows
import Derived.Tactics
import Derived.Lib.ConvBytes
import Derived.Laws.Slices
import Derived.WalkKit
import Derived.KernelRfl
import Derived.RowKit3
import Derived.Deep.LoopGhost
import Derived.Deep.QuietTactic
import Derived.BigQuiet
import Derived.WideLaws
import Derived.Deep.DeepCutAuto
import Derived.Deep.CutBlock
import Derived.Deep.RegionHeld3
import Derived.Laws.Rows
import Derived.Lib.AppendStr
import Derived.ArgAppend
import Derived.Laws.IdiomCopy
import Derived.OrdersHeld
import Derived.Laws.BitsLemmas
import Derived.RowKit
import Derived.Test.YtfmedcgejdkehaaWWords
import Derived.Test.YtfmedcgejdkehaaWLast
import Derived.Test.YtfmedcgejdkehaaWTab
import Derived.Test.YtfmedcgejdkehaaWFour
import Derived.Test.YtfmedcgejdkehaaWQPut
import Derived.Test.YtfmedcgejdkehaaWApart
import Derived.Test.YtfmedcgejdkehaaWArr
import Derived.Test.YtfmedcgejdkehaaWZeros
import Derived.Test.YtfmedcgejdkehaaWFoot
import Derived.Test.YtfmedcgejdkehaaWKept
import Derived.Test.YtfmedcgejdkehaaWShare
import Derived.Test.YtfmedcgejdkehaaWN
import Derived.Test.YtfmedcgejdkehaaWFootNe
import Derived.Test.YtfmedcgejdkehaaWAt
import Derived.Test.YtfmedcgejdkehaaWEqStruct
import Derived.Test.YtfmedcgejdkehaaWRepsOne
import Derived.Test.YtfmedcgejdkehaaWInv
import Derived.Test.YtfmedcgejdkehaaWInvWords
import Derived.Test.YtfmedcgejdkehaaWGuard
import Derived.Test.YtfmedcgejdkehaaWNEv
import Derived.Test.YtfmedcgejdkehaaWMore
namespace Go.Proofs.Ytfmedcgejdkehaa.PWordFields
open Go.RowKit Go.Proofs.YtfmedcgejdkehaaW.PrintWords Go.Proofs.YtfmedcgejdkehaaW.PrintLast Go.Proofs.YtfmedcgejdkehaaW.PrintMore
attribute [local go_sem] max2_int min2_int max_two min_two max_three min_three max_four min_four   -- for this text's walks alone
set_option linter.unusedVariables false
set_option linter.unusedSimpArgs false



def errW : Option Int → Value
  | none => .nilIface
  | some c => .iface 0 (.int .i64 c)
theorem errW_none : errW none = .nilIface := rfl
theorem errW_some (c : Int) : errW (some c) = .iface 0 (.int .i64 c) := rfl

-- the values' own types

end Go.Proofs.Ytfmedcgejdkehaa.PWordFields
