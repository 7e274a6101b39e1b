/- Walks through the functions of the statement, and the statement over them: each contract says what the call answers and that nothing else changes. -/
import Derived.Test.YteimdlndcpmfoaaProg
import Derived.Test.YteimdlndcpmfoaaBits
import Derived.Test.YteimdlndcpmfoaaHeap
import Derived.Test.YteimdlndcpmfoaaAid
import Derived.Lib.Hide
import Derived.Test.YteimdlndcpmfoaaArr
import Derived.Test.YteimdlndcpmfoaaWalkAwake
import Derived.WalkKit
import Derived.WalkSpells
import Derived.WalkLawsBesides
import Derived.Deep.QuietTactic
import Derived.BigQuiet
import Derived.Deep.DeepCutAuto
import Derived.Deep.CutBlock
import Derived.Lib.SlBytesConst
namespace Go.Proofs.Yteimdlndcpmfoaa.Walks
set_option linter.unusedVariables false
open Go.RowKit Go.Proofs.Yteimdlndcpmfoaa.Bits Go.Proofs.Yteimdlndcpmfoaa.Heap Go.Proofs.Yteimdlndcpmfoaa.Aid Go.Proofs.Yteimdlndcpmfoaa.Arr

def numb (a b : Int) : Int := if 0 ≤ a ∧ a < 6 ∧ 0 ≤ b ∧ b < 3 then 3 * a + b else -1
set_option maxHeartbeats 1000000 in
theorem number_calls (a b : Int) (w : World) :
    Calls Try.prog 11 #[.int .i64 a, .int .i64 b] w fun e w' => e = .returned (.int .i64 (numb a b)) ∧ w = w' := by
  go_enter Try.func11, Try.ntmps11
  go_wp2
  all_goals
    go_ret
    refine ⟨ret_int ?_, rfl⟩
    unfold numb
    first | (rw [if_pos (by omega)]; omega) | rw [if_neg (by omega)]
set_option maxHeartbeats 1000000 in
theorem of_calls (n : Int) (h0 : 0 ≤ n) (h1 : n < 18) (w : World) :
    Calls Try.prog 12 #[.int .i64 n] w fun e w' => e = .returned (.tuple #[.int .i64 (n / 3), .int .i64 (n % 3)]) ∧ w = w' := by
  go_enter Try.func12, Try.ntmps12
  go_wp2
  go_ret2
  exact ⟨rfl, rfl⟩
set_option maxHeartbeats 2000000 in
theorem numbers_walk (a0 a1 a2 : Int) (w : World) (w0 : (Lit.int .i64 a0).wf = true) (w1 : (Lit.int .i64 a1).wf = true) (w2 : (Lit.int .u8 a2).wf = true) :
    Calls Try.prog 6 #[.int .i64 a0, .int .i64 a1, .int .u8 a2] w fun e w' => e = .returned (.bool true) ∧ Below w.heap.size w w' := by
  have hb2 := bounds_u8 w2
  clear w0 w1 w2
  have hn0 : 0 ≤ a2 % 18 := by omega
  have hn1 : a2 % 18 < 18 := by omega
  have HB := Lib.hid (show numb (a2 % 18 / 3) (a2 % 3) = a2 % 18 by unfold numb; rw [if_pos (by omega)]; omega)
  have OC := Lib.hid (of_calls (a2 % 18) hn0 hn1)
  by_cases h : 0 ≤ a0 ∧ a0 < 6 ∧ 0 ≤ a1 ∧ a1 < 3
  · have hk : numb a0 a1 = 3 * a0 + a1 := by unfold numb; rw [if_pos h]
    have HK := Lib.hid hk
    obtain ⟨p1, p2, p3, p4⟩ := h
    have hm : ((3 * a0 + a1 : Int) == -1) = false := by simp; omega
    clear hk
    go_enter Try.func6, Try.ntmps6
    go_wp2_with fail
    refine (number_calls _ _ _).mono ?_
    rintro e w' ⟨rfl, rfl⟩
    rw [HK.out]
    go_wp2_with fail
    refine (OC.out _).mono ?_
    rintro e w' ⟨rfl, rfl⟩
    go_wp2_with fail
    refine (awake_calls _).mono ?_
    rintro e w1 ⟨rfl, hb1⟩
    have B1 := Lib.hid hb1
    clear hb1
    go_wp2_with fail
    refine (number_calls _ _ _).mono ?_
    rintro e w' ⟨rfl, rfl⟩
    rw [HB.out]
    go_wp2_with fail
    go_ret
    exact ⟨ret_bool (by simp), B1.out⟩
  · have hk : numb a0 a1 = -1 := by unfold numb; rw [if_neg h]
    have HK := Lib.hid hk
    clear hk
    go_enter Try.func6, Try.ntmps6
    go_wp2_with fail
    refine (number_calls _ _ _).mono ?_
    rintro e w' ⟨rfl, rfl⟩
    rw [HK.out]
    go_wp2_with fail
    refine (OC.out _).mono ?_
    rintro e w' ⟨rfl, rfl⟩
    go_wp2_with fail
    all_goals
      refine (awake_calls _).mono ?_
      rintro e w1 ⟨rfl, hb1⟩
      have B1 := Lib.hid hb1
      clear hb1
      go_wp2_with fail
      refine (number_calls _ _ _).mono ?_
      rintro e w' ⟨rfl, rfl⟩
      rw [HB.out]
      go_wp2_with fail
      go_ret
      exact ⟨ret_bool (by simp), B1.out⟩
end Go.Proofs.Yteimdlndcpmfoaa.Walks
