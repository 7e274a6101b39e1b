/- Walks through the functions of the statement, and the statement over them: each contract says what the call answers and that nothing else changes. -/
import Derived.Test.YtjlodddlbgpcdaaDoorProg
import Derived.Test.YtjlodddlbgpcdaaDoorBits
import Derived.Test.YtjlodddlbgpcdaaDoorHeap
import Derived.Test.YtjlodddlbgpcdaaDoorAid
import Derived.Test.YtjlodddlbgpcdaaDoorArr
import Derived.Test.YtjlodddlbgpcdaaDoorEql
import Derived.Test.YtjlodddlbgpcdaaDoorWalkBase
import Derived.Test.YtjlodddlbgpcdaaDoorWalkCode
import Derived.Test.YtjlodddlbgpcdaaDoorWalkRef
import Derived.Lib.Hide
import Derived.WalkKit
import Derived.WalkSpells
import Derived.WalkLawsBesides
import Derived.Deep.QuietTactic
import Derived.BigQuiet
import Derived.Deep.RegionHeld3
import Derived.Deep.DeepCutAuto
import Derived.Deep.CutBlock
import Derived.Lib.SlBytesConst
import Derived.StillTailTactics
import Derived.RegionTactic
import Derived.Deep.RegionLaw
import Derived.Laws.BytesString
import Derived.Laws.MakeOwn
import Derived.Deep.AppendLies
import Derived.Laws.CopyOwn
import Derived.Maps.AppendAt
import Derived.Deep.Upon
import Derived.Deep.AppendSrc
import Derived.Shelf.Abstract
import Derived.Shelf.Spec.TrailingZeros
namespace Go.Proofs.YtjlodddlbgpcdaaDoor.Walks
set_option linter.unusedVariables false
set_option linter.unusedSimpArgs false
open Go.RowKit Go.Proofs.YtjlodddlbgpcdaaDoor.Bits Go.Proofs.YtjlodddlbgpcdaaDoor.Heap Go.Proofs.YtjlodddlbgpcdaaDoor.Aid Go.Proofs.YtjlodddlbgpcdaaDoor.Arr Go.Proofs.YtjlodddlbgpcdaaDoor.Eql

set_option maxHeartbeats 4000000 in
theorem refRight_calls (c a b d : Nat) (n : Int) (w : World) :
    Calls Tryd.prog 27 #[.int .u8 c, .int .u8 a, .int .u8 b, .int .u8 d, .int .i16 n] w fun e w' => e = .returned (.bool (rightB c a b d n)) ∧ Below w.heap.size w w' := by
  by_cases h23 : c < 23
  · have HR := Lib.hid (rightB_F (c := c) (a := a) (b := b) (d := d) (n := n) h23)
    have HF := Lib.hid (refFields_calls c h23)
    obtain ⟨p0, p1, _⟩ := refF_props c h23
    have hd23 : decide (23 ≤ (c : Int)) = false := decide_eq_false (by omega)
    generalize rightB c a b d n = res at *
    generalize refF c = F at *
    go_enter Tryd.func27, Tryd.ntmps27
    go_wp2_with fail
    refine (HF.out _).mono ?_
    rintro e w2 ⟨rfl, hbe⟩
    have A2 := Lib.hid hbe
    clear hbe
    go_wp2
    all_goals
      try simp only [beq_iff_eq, beq_eq_false_iff_ne, ne_eq, bne_iff_ne, bne_eq_false_iff_eq] at *
      go_ret
      refine ⟨ret_bool ?_, A2.out⟩
      rw [HR.out]
      first
        | exact (decide_eq_false (by omega)).symm
        | exact (decide_eq_true (by omega)).symm
        | (rw [decide_eq_decide]; omega)
  · have hr : rightB c a b d n = false := decide_eq_false (fun h => by omega)
    have hd23 : decide (23 ≤ (c : Int)) = true := decide_eq_true (by omega)
    go_enter Tryd.func27, Tryd.ntmps27
    go_wp2
    go_ret
    exact ⟨ret_bool hr.symm, Below.refl _ _⟩
end Go.Proofs.YtjlodddlbgpcdaaDoor.Walks
