/- Walks through the functions of the statement, and the statement over them: each contract says what the call answers and that nothing else changes. -/
import Derived.Test.YthgccppclkkohaaProg
import Derived.Test.YthgccppclkkohaaWalkSeat
import Derived.Test.YthgccppclkkohaaWalkSeat2
import Derived.Test.YthgccppclkkohaaWalkR1
import Derived.Test.YthgccppclkkohaaWalkG0
import Derived.Test.YthgccppclkkohaaWalkG1
import Derived.Test.YthgccppclkkohaaWalkG2
import Derived.Test.YthgccppclkkohaaWalkG3
import Derived.Test.YthgccppclkkohaaWalkG4
import Derived.Test.YthgccppclkkohaaWalkG5
import Derived.Test.YthgccppclkkohaaWalkG6
import Derived.Test.YthgccppclkkohaaWalkG7
import Derived.Test.YthgccppclkkohaaWalkG8
import Derived.Test.YthgccppclkkohaaWalkGZ
import Derived.Test.YthgccppclkkohaaBits
import Derived.Test.YthgccppclkkohaaHeap
import Derived.Test.YthgccppclkkohaaAid
import Derived.Lib.Hide
import Derived.Test.YthgccppclkkohaaArr
import Derived.Test.YthgccppclkkohaaEql
import Derived.WalkKit
import Derived.WalkSpells
import Derived.WalkLawsBesides
import Derived.Deep.QuietTactic
import Derived.BigQuiet
import Derived.Deep.RegionHeld3
import Derived.Deep.DeepCutAuto
import Derived.Deep.CutBlock
import Derived.Lib.SlBytesConst
import Derived.StillTailTactics
import Derived.Laws.MakeOwn
import Derived.Deep.AppendLies
import Derived.RegionTactic
import Derived.Deep.RegionLaw
namespace Go.Proofs.Ythgccppclkkohaa.Walks
set_option linter.unusedVariables false
set_option linter.unusedSimpArgs false
open Go.RowKit Go.Proofs.Ythgccppclkkohaa.Bits Go.Proofs.Ythgccppclkkohaa.Heap Go.Proofs.Ythgccppclkkohaa.Aid Go.Proofs.Ythgccppclkkohaa.Arr Go.Proofs.Ythgccppclkkohaa.Eql


theorem seatRegisters_walk (c0 : List Value) (a1 a2 a3 a4 : Int) (w : World) (f0 : Fits w seSh c0) (w1 : (Lit.int .i64 a1).wf = true) (w2 : (Lit.int .u64 a2).wf = true) (w3 : (Lit.int .i64 a3).wf = true) (w4 : (Lit.int .u64 a4).wf = true) :
    Calls Try.prog 8 #[.agg c0.toArray, .int .i64 a1, .int .u64 a2, .int .i64 a3, .int .u64 a4] w fun e w' => e = .returned (.bool true) ∧ Below w.heap.size w w' := by
  obtain ⟨x, rfl, h⟩ := seat_of_fits f0
  obtain ⟨v, rfl, hv⟩ := wf_u64 w4
  by_cases hn : 0 ≤ a1 ∧ a1 ≤ 8
  · have hc : a1 = 0 ∨ a1 = 1 ∨ a1 = 2 ∨ a1 = 3 ∨ a1 = 4 ∨ a1 = 5 ∨ a1 = 6 ∨ a1 = 7 ∨ a1 = 8 := by omega
    rcases hc with rfl | rfl | rfl | rfl | rfl | rfl | rfl | rfl | rfl
    · exact regs0 x h a2 a3 v hv w
    · exact regs1 x h a2 a3 v hv w
    · exact regs2 x h a2 a3 v hv w
    · exact regs3 x h a2 a3 v hv w
    · exact regs4 x h a2 a3 v hv w
    · exact regs5 x h a2 a3 v hv w
    · exact regs6 x h a2 a3 v hv w
    · exact regs7 x h a2 a3 v hv w
    · exact regs8 x h a2 a3 v hv w
  · exact regs_out x h a1 a2 a3 v hn w
end Go.Proofs.Ythgccppclkkohaa.Walks
