/- Walks through the functions of the statement, and the statement over them: each contract says what the call answers and that nothing else changes. -/
import Derived.Test.YtjlodddlbgpcdaaDoorProg
import Derived.Test.YtjlodddlbgpcdaaDoorBits
import Derived.Test.YtjlodddlbgpcdaaDoorHeap
import Derived.Test.YtjlodddlbgpcdaaDoorAid
import Derived.Test.YtjlodddlbgpcdaaDoorArr
import Derived.Test.YtjlodddlbgpcdaaDoorEql
import Derived.Test.YtjlodddlbgpcdaaDoorWalkBase
import Derived.Test.YtjlodddlbgpcdaaDoorWalkCode
import Derived.Test.YtjlodddlbgpcdaaDoorWalkSeat
import Derived.Test.YtjlodddlbgpcdaaDoorWalkRef
import Derived.Test.YtjlodddlbgpcdaaDoorWalkRefR
import Derived.Test.YtjlodddlbgpcdaaDoorWalkBus
import Derived.Test.YtjlodddlbgpcdaaDoorWalkBus2
import Derived.Test.YtjlodddlbgpcdaaDoorWalkRefP
import Derived.Test.YtjlodddlbgpcdaaDoorWalkRefG
import Derived.Test.YtjlodddlbgpcdaaDoorWalkRefL
import Derived.Test.YtjlodddlbgpcdaaDoorWalkDo
import Derived.Test.YtjlodddlbgpcdaaDoorWalkDo2
import Derived.Test.YtjlodddlbgpcdaaDoorWalkStep
import Derived.Test.YtjlodddlbgpcdaaDoorWalkSome
import Derived.Test.YtjlodddlbgpcdaaDoorWalkAwake
import Derived.Lib.Hide
import Derived.WalkKit
import Derived.WalkSpells
import Derived.WalkLawsBesides
import Derived.Deep.QuietTactic
import Derived.BigQuiet
import Derived.Deep.RegionHeld3
import Derived.Deep.DeepCutAuto
import Derived.Deep.CutBlock
import Derived.Lib.SlBytesConst
import Derived.StillTailTactics
import Derived.RegionTactic
import Derived.Deep.RegionLaw
import Derived.Laws.BytesString
import Derived.Laws.MakeOwn
import Derived.Deep.AppendLies
import Derived.Laws.CopyOwn
import Derived.Maps.AppendAt
import Derived.Deep.Upon
import Derived.Deep.AppendSrc
import Derived.Shelf.Abstract
import Derived.Shelf.Spec.TrailingZeros
namespace Go.Proofs.YtjlodddlbgpcdaaDoor.Walks
set_option linter.unusedVariables false
set_option linter.unusedSimpArgs false
open Go.RowKit Go.Proofs.YtjlodddlbgpcdaaDoor.Bits Go.Proofs.YtjlodddlbgpcdaaDoor.Heap Go.Proofs.YtjlodddlbgpcdaaDoor.Aid Go.Proofs.YtjlodddlbgpcdaaDoor.Arr Go.Proofs.YtjlodddlbgpcdaaDoor.Eql

set_option maxRecDepth 8000 in
set_option maxHeartbeats 4000000 in
theorem step_nil (mb : Nat) (time me : Int) (w : World) :
    Calls Tryd.prog 16 #[.pointer none, .iface 54 (.agg #[.pointer (some ⟨mb, 0, none⟩)]), .int .u64 time, .int .i64 me] w fun e w' => e = .returned (.agg (exitA 5 0)) ∧ Below w.heap.size w w' := by
  have B1 := Lib.hid (((Below.refl w.heap.size w).alloc (Nat.le_refl _) (.cells #[.int .u8 0, .int .u64 0] 50)).alloc (by simp) (.cells #[.pointer none, .iface 54 (.agg #[.pointer (some ⟨mb, 0, none⟩)]), .int .u64 time, .int .i64 me] 67))
  have e0 := Lib.hid ((Blk.new w #[.int .u8 0, .int .u64 0] 50).alloc (.cells #[.pointer none, .iface 54 (.agg #[.pointer (some ⟨mb, 0, none⟩)]), .int .u64 time, .int .i64 me] 67))
  unfold exitA
  go_enter Tryd.func16, Tryd.ntmps16
  go_upto_region 2 with (fail)
  generalize hw1 : (w.alloc (.cells _ 50)).alloc _ = w1 at *
  clear hw1
  have c0 := e0.out.cellAt (i := 0) rfl
  have c1 := e0.out.cellAt (i := 1) rfl
  have f0 := e0.out.unfrozen 0
  have f1 := e0.out.unfrozen 1
  have S0 := Lib.hid ((e0.out.set 0 (.int .u8 5)).set 1 (.int .u64 0))
  go_wp2
  refine bodyPost_ret (v := .agg #[.int .u8 5, .int .u64 0]) (results_cell_row Tryd.results16 _ _ w.heap.size _ #[.int .u8 5, .int .u64 0] _ _ rfl S0.out Tryd.underlying50 rfl (by simpa using size2x)) rfl ⟨rfl, (B1.out.setCell (Nat.le_refl _) _).setCell (Nat.le_refl _) _⟩
set_option maxRecDepth 8000 in
set_option maxHeartbeats 4000000 in
theorem step_nobus (sb : Nat) (time me : Int) (w : World) :
    Calls Tryd.prog 16 #[.pointer (some ⟨sb, 0, none⟩), .nilIface, .int .u64 time, .int .i64 me] w fun e w' => e = .returned (.agg (exitA 5 0)) ∧ Below w.heap.size w w' := by
  have B1 := Lib.hid (((Below.refl w.heap.size w).alloc (Nat.le_refl _) (.cells #[.int .u8 0, .int .u64 0] 50)).alloc (by simp) (.cells #[.pointer (some ⟨sb, 0, none⟩), .nilIface, .int .u64 time, .int .i64 me] 67))
  have e0 := Lib.hid ((Blk.new w #[.int .u8 0, .int .u64 0] 50).alloc (.cells #[.pointer (some ⟨sb, 0, none⟩), .nilIface, .int .u64 time, .int .i64 me] 67))
  unfold exitA
  go_enter Tryd.func16, Tryd.ntmps16
  go_upto_region 2 with (fail)
  generalize hw1 : (w.alloc (.cells _ 50)).alloc _ = w1 at *
  clear hw1
  have c0 := e0.out.cellAt (i := 0) rfl
  have c1 := e0.out.cellAt (i := 1) rfl
  have f0 := e0.out.unfrozen 0
  have f1 := e0.out.unfrozen 1
  have S0 := Lib.hid ((e0.out.set 0 (.int .u8 5)).set 1 (.int .u64 0))
  go_wp2
  refine bodyPost_ret (v := .agg #[.int .u8 5, .int .u64 0]) (results_cell_row Tryd.results16 _ _ w.heap.size _ #[.int .u8 5, .int .u64 0] _ _ rfl S0.out Tryd.underlying50 rfl (by simpa using size2x)) rfl ⟨rfl, (B1.out.setCell (Nat.le_refl _) _).setCell (Nat.le_refl _) _⟩
end Go.Proofs.YtjlodddlbgpcdaaDoor.Walks
