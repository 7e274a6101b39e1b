/- Walks through the functions of the statement, and the statement over them: each contract says what the call answers and that nothing else changes. -/
import Derived.Test.YtbjlldenokdpeaaProg
import Derived.Test.YtbjlldenokdpeaaBits
import Derived.Test.YtbjlldenokdpeaaHeap
import Derived.Test.YtbjlldenokdpeaaAid
import Derived.Lib.Hide
import Derived.Test.YtbjlldenokdpeaaArr
import Derived.Test.YtbjlldenokdpeaaWalkNear
import Derived.WalkKit
import Derived.WalkSpells
import Derived.WalkLawsBesides
import Derived.Deep.QuietTactic
import Derived.BigQuiet
import Derived.Deep.RegionWith
import Derived.Deep.RegionHeld3
import Derived.Deep.DeepCutAuto
import Derived.Deep.CutBlock
import Derived.Lib.SlBytesConst
namespace Go.Proofs.Ytbjlldenokdpeaa.Walks
set_option linter.unusedVariables false
set_option linter.unusedSimpArgs false
open Go.RowKit Go.Proofs.Ytbjlldenokdpeaa.Bits Go.Proofs.Ytbjlldenokdpeaa.Heap Go.Proofs.Ytbjlldenokdpeaa.Aid Go.Proofs.Ytbjlldenokdpeaa.Arr

theorem encW_ex : encW 1 1 0 0 5 = 71303173 := by decide
theorem rightB_ex : rightB ((1 : Nat) : Int) ((1 : Nat) : Int) ((0 : Nat) : Int) ((0 : Nat) : Int) 5 = true := by decide
set_option maxHeartbeats 1000000 in
theorem awake_calls (w : World) :
    Calls Try.prog 9 #[] w fun e w' => e = .returned (.bool true) ∧ Below w.heap.size w w' := by
  have HE : Hid (∀ w, Calls Try.prog 12 #[.agg #[.int .u8 1, .int .u8 1, .int .u8 0, .int .u8 0, .int .i16 5]] w fun e w' => e = .returned (.tuple #[.int .u32 71303173, .bool true]) ∧ Below w.heap.size w w') := fun w => by
    have h := encode_calls 1 1 0 0 5 (by omega) (by omega) (by omega) (by omega) (by omega) w
    rw [encW_ex, rightB_ex] at h
    exact h
  go_enter Try.func9, Try.ntmps9
  go_wp2_with fail
  refine (HE.out _).mono ?_
  rintro e w2 ⟨rfl, hbe⟩
  have A2 := Lib.hid hbe
  clear hbe
  go_wp2
  go_ret
  exact ⟨rfl, A2.out⟩
def numL : List Int := [0, 1, 2, 3, 4, 5, 6, 7, 8, 9, 10, 11, 12, 13, 14, 15, 16, 17, 18, 19, 20, 21, 22]
theorem numL_ok (c : Nat) (h : c < 23) : numL[c]? = some ((c : Nat) : Int) := by
  have : ∀ c : Fin 23, numL[c.1]? = some ((c.1 : Nat) : Int) := by decide
  exact this ⟨c, h⟩
def numM : List Int := [0, 1, 2, 3, 4, 5, 6, 7, 8]
theorem numM_ok (c : Nat) (h : c < 9) : numM[c]? = some ((c : Nat) : Int) := by
  have : ∀ c : Fin 9, numM[c.1]? = some ((c.1 : Nat) : Int) := by decide
  exact this ⟨c, h⟩
set_option maxHeartbeats 1000000 in
theorem numbers_walk (a0 : Int) (w : World) (w0 : (Lit.int .u8 a0).wf = true) :
    Calls Try.prog 5 #[.int .u8 a0] w fun e w' => e = .returned (.bool true) ∧ Below w.heap.size w w' := by
  obtain ⟨n, rfl, hn⟩ := wf_u8 w0
  clear w0
  have E1 := Lib.hid (show (n : Int) % 23 = ((n % 23 : Nat) : Int) by omega)
  have E2 := Lib.hid (show (n : Int) % 9 = ((n % 9 : Nat) : Int) by omega)
  have h1 : n % 23 < 23 := by omega
  have h2 : n % 9 < 9 := by omega
  generalize n % 23 = p at *
  generalize n % 9 = q at *
  have hn0 : 0 ≤ (n : Int) := by omega
  go_enter Try.func5, Try.ntmps5
  go_wp2_with fail
  have h2b := blocks2 w (numL.map (Value.int .u8)).toArray (numM.map (Value.int .i64)).toArray 5 3
  simp only [numL, numM, List.map] at h2b
  generalize (w.alloc (.cells _ 5)).alloc _ = w1 at *
  obtain ⟨hB, hsz, bL, bM⟩ := h2b w1 rfl
  have L1 : Hid (Blk w1 w.heap.size (numL.map (Value.int .u8)) 5) := bL
  have M1 : Hid (Blk w1 (w.heap.size + 1) (numM.map (Value.int .i64)) 3) := bM
  have A1 := Lib.hid hB
  have Z1 := Lib.hid hsz
  clear h2b hB hsz bL bM
  refine (awake_calls _).mono ?_
  rintro e w2 ⟨rfl, hbe⟩
  have A2 := Lib.hid (A1.out.trans (hbe.mono A1.out.size))
  have hcp : w2.cell? ⟨w.heap.size, p, none⟩ = some (.int .u8 p) := (L1.out.below hbe (by have := Z1.out; omega)).cellAt (by rw [List.getElem?_map, numL_ok p h1]; rfl)
  have hcq : w2.cell? ⟨w.heap.size + 1, q, none⟩ = some (.int .i64 q) := (M1.out.below hbe (by have := Z1.out; omega)).cellAt (by rw [List.getElem?_map, numM_ok q h2]; rfl)
  clear hbe L1 M1 A1 Z1
  have e1 := E1.out
  have e2 := E2.out
  have hp0 : 0 ≤ (p : Int) := by omega
  have hq0 : 0 ≤ (q : Int) := by omega
  have hp1 : (p : Int) < 23 := by omega
  have hq1 : (q : Int) < 9 := by omega
  clear E1 E2
  go_wp2
  go_ret
  exact ⟨rfl, A2.out⟩
end Go.Proofs.Ytbjlldenokdpeaa.Walks
