/- Walks through the functions of the statement, and the statement over them: each contract says what the call answers and that nothing else changes. -/
import Derived.Test.YtbjlldenokdpeaaProg
import Derived.Test.YtbjlldenokdpeaaBits
import Derived.Test.YtbjlldenokdpeaaHeap
import Derived.Test.YtbjlldenokdpeaaAid
import Derived.Lib.Hide
import Derived.Test.YtbjlldenokdpeaaArr
import Derived.WalkKit
import Derived.WalkSpells
import Derived.WalkLawsBesides
import Derived.Deep.QuietTactic
import Derived.BigQuiet
import Derived.Deep.DeepCutAuto
import Derived.Deep.CutBlock
import Derived.Lib.SlBytesConst
namespace Go.Proofs.Ytbjlldenokdpeaa.Walks
set_option linter.unusedVariables false
open Go.RowKit Go.Proofs.Ytbjlldenokdpeaa.Bits Go.Proofs.Ytbjlldenokdpeaa.Heap Go.Proofs.Ytbjlldenokdpeaa.Aid Go.Proofs.Ytbjlldenokdpeaa.Arr

theorem ret_int {k : IntKind} {a b : Int} (h : a = b) : Ending.returned (.int k a) = .returned (.int k b) := by rw [h]
theorem ret_bool {a b : Bool} (h : a = b) : Ending.returned (.bool a) = .returned (.bool b) := by rw [h]
/-- Which fields an operation has. -/
def fA (c : Int) : Bool := decide (1 ≤ c ∧ c ≤ 19 ∨ 23 ≤ c)
def fB (c : Int) : Bool := decide (3 ≤ c ∧ c ≤ 17 ∨ 23 ≤ c)
def fC (c : Int) : Bool := decide (3 ≤ c ∧ c ≤ 10 ∨ 23 ≤ c)
def fN (c : Int) : Bool := decide (1 ≤ c ∧ c ≤ 2 ∨ 11 ≤ c ∧ c ≤ 20)
def oneB (is : Bool) (r : Int) : Bool := decide (r = 0 ∨ is = true ∧ r < 16)
def rightB (c a b d n : Int) : Bool := decide (c < 23 ∧ oneB (fA c) a = true ∧ oneB (fB c) b = true ∧ oneB (fC c) d = true ∧ (fN c = true ∨ n = 0) ∧ (c = 18 ∨ c = 19 → 0 ≤ n ∧ n < 9))
theorem agg4 {a b c d a' b' c' d' : Bool} (h1 : a = a') (h2 : b = b') (h3 : c = c') (h4 : d = d') : Ending.returned (.agg #[.bool a, .bool b, .bool c, .bool d]) = .returned (.agg #[.bool a', .bool b', .bool c', .bool d']) := by rw [h1, h2, h3, h4]
theorem size4 : (Try.prog.info? 45).map (·.size) = some 4 := by kernel_rfl
theorem size5 : (Try.prog.info? 24).map (·.size) = some 5 := by kernel_rfl
set_option maxHeartbeats 1000000 in
theorem fields_calls (c : Int) (h0 : 0 ≤ c) (w : World) :
    Calls Try.prog 16 #[.int .u8 c] w fun e w' => e = .returned (.agg #[.bool (fA c), .bool (fB c), .bool (fC c), .bool (fN c)]) ∧ Below w.heap.size w w' := by
  go_enter Try.func16, Try.ntmps16
  go_wp2
  all_goals
    simp only [beq_iff_eq, beq_eq_false_iff_ne, ne_eq] at *
    refine bodyPost_ret (results_cell_row Try.results16 _ _ w.heap.size _ _ _ _ rfl (Blk.new w _ 45) Try.underlying45 rfl size4) rfl ⟨agg4 ?_ ?_ ?_ ?_, (Below.refl _ _).alloc (Nat.le_refl _) _⟩
    all_goals first | exact (decide_eq_true (by omega)).symm | exact (decide_eq_false (by omega)).symm
set_option maxHeartbeats 1000000 in
theorem one_calls (is : Bool) (r : Int) (w : World) :
    Calls Try.prog 17 #[.bool is, .int .u8 r] w fun e w' => e = .returned (.bool (oneB is r)) ∧ w' = w := by
  by_cases h0 : r = 0
  · subst h0
    go_enter Try.func17, Try.ntmps17
    go_wp2
    go_ret
    exact ⟨ret_bool (by simp [oneB]), rfl⟩
  · have hd : decide (r = 0) = false := decide_eq_false h0
    cases is with
    | false =>
      go_enter Try.func17, Try.ntmps17
      go_wp2
      go_ret
      exact ⟨ret_bool (by simp [oneB, h0]), rfl⟩
    | true =>
      go_enter Try.func17, Try.ntmps17
      go_wp2
      go_ret
      exact ⟨ret_bool (by simp [oneB, h0]), rfl⟩
set_option maxHeartbeats 4000000 in
theorem right_calls (c a b d n : Int) (h0 : 0 ≤ c) (w : World) :
    Calls Try.prog 10 #[.agg #[.int .u8 c, .int .u8 a, .int .u8 b, .int .u8 d, .int .i16 n]] w fun e w' => e = .returned (.bool (rightB c a b d n)) ∧ Below w.heap.size w w' := by
  have HF := Lib.hid (fields_calls c h0)
  have HO := Lib.hid one_calls
  have HR := Lib.hid (show rightB c a b d n = decide (c < 23 ∧ oneB (fA c) a = true ∧ oneB (fB c) b = true ∧ oneB (fC c) d = true ∧ (fN c = true ∨ n = 0) ∧ (c = 18 ∨ c = 19 → 0 ≤ n ∧ n < 9)) from rfl)
  generalize rightB c a b d n = res at *
  generalize fA c = ka at *
  generalize fB c = kb at *
  generalize fC c = kc at *
  generalize fN c = kn at *
  go_enter Try.func10, Try.ntmps10
  go_upto_region 1 with (fail)
  obtain ⟨w1, hw1⟩ : ∃ w1, w.alloc (.cells #[.int .u8 c, .int .u8 a, .int .u8 b, .int .u8 d, .int .i16 n] 24) = w1 := ⟨_, rfl⟩
  have A1 : Hid (Below w.heap.size w w1) := by rw [← hw1]; exact (Below.refl _ _).alloc (Nat.le_refl _) _
  have B1 : Hid (Blk w1 w.heap.size [.int .u8 c, .int .u8 a, .int .u8 b, .int .u8 d, .int .i16 n] 24) := by rw [← hw1]; exact Blk.new w _ _
  have z1 : w1.heap.size = w.heap.size + 1 := by rw [← hw1]; simp
  rw [hw1]
  clear hw1
  have c0 := B1.out.cellAt (i := 0) rfl
  go_wp2_with fail
  refine (HF.out _).mono ?_
  rintro e w2 ⟨rfl, hb⟩
  have A2 := Lib.hid (A1.out.trans (hb.mono A1.out.size))
  have B2 := Lib.hid (B1.out.below hb (by omega))
  have z2 : w.heap.size < w2.heap.size := by have := hb.size; omega
  clear hb c0 A1 B1 z1
  go_upto_region 2 with (fail)
  obtain ⟨w3, hw3⟩ : ∃ w3, w2.alloc (.cells #[.bool ka, .bool kb, .bool kc, .bool kn] 45) = w3 := ⟨_, rfl⟩
  have BK : Hid (Blk w3 w2.heap.size [.bool ka, .bool kb, .bool kc, .bool kn] 45) := by rw [← hw3]; exact Blk.new w2 _ _
  have B3 : Hid (Blk w3 w.heap.size [.int .u8 c, .int .u8 a, .int .u8 b, .int .u8 d, .int .i16 n] 24) := by rw [← hw3]; exact B2.out.alloc _
  have A3 : Hid (Below w.heap.size w w3) := by rw [← hw3]; exact A2.out.alloc (Nat.le_of_lt z2) _
  rw [hw3]
  have c0 := B3.out.cellAt (i := 0) rfl
  have c1 := B3.out.cellAt (i := 1) rfl
  have c2 := B3.out.cellAt (i := 2) rfl
  have c3 := B3.out.cellAt (i := 3) rfl
  have c4 := B3.out.cellAt (i := 4) rfl
  have k0 := BK.out.cellAt (i := 0) rfl
  have k1 := BK.out.cellAt (i := 1) rfl
  have k2 := BK.out.cellAt (i := 2) rfl
  have k3 := BK.out.cellAt (i := 3) rfl
  clear hw3 A2 B2
  generalize w2.heap.size = M at *
  by_cases h23 : 23 ≤ c
  · have hd : decide (23 ≤ c) = true := decide_eq_true h23
    go_wp2
    go_ret
    exact ⟨ret_bool (by rw [HR.out]; exact (decide_eq_false (by rintro ⟨h, _⟩; omega)).symm), A3.out⟩
  have hd : decide (23 ≤ c) = false := decide_eq_false h23
  go_wp2_with fail
  refine (HO.out _ _ _).mono ?_
  rintro e w4 ⟨rfl, rfl⟩
  cases h1 : oneB ka a with
  | false =>
    go_wp2
    go_ret
    exact ⟨ret_bool (by rw [HR.out]; exact (decide_eq_false (by rintro ⟨_, h, _⟩; rw [h1] at h; cases h)).symm), A3.out⟩
  | true =>
  go_wp2_with fail
  refine (HO.out _ _ _).mono ?_
  rintro e w4 ⟨rfl, rfl⟩
  cases h2 : oneB kb b with
  | false =>
    go_wp2
    go_ret
    exact ⟨ret_bool (by rw [HR.out]; exact (decide_eq_false (by rintro ⟨_, _, h, _⟩; rw [h2] at h; cases h)).symm), A3.out⟩
  | true =>
  go_wp2_with fail
  refine (HO.out _ _ _).mono ?_
  rintro e w4 ⟨rfl, rfl⟩
  cases h3 : oneB kc d with
  | false =>
    go_wp2
    go_ret
    exact ⟨ret_bool (by rw [HR.out]; exact (decide_eq_false (by rintro ⟨_, _, _, h, _⟩; rw [h3] at h; cases h)).symm), A3.out⟩
  | true =>
  have HR2 : Hid (res = decide ((kn = true ∨ n = 0) ∧ (c = 18 ∨ c = 19 → 0 ≤ n ∧ n < 9))) := by
    rw [HR.out, decide_eq_decide]
    exact ⟨fun h => ⟨h.2.2.2.2.1, h.2.2.2.2.2⟩, fun h => ⟨by omega, h1, h2, h3, h.1, h.2⟩⟩
  clear HR
  have tail : ∀ hk : kn = true ∨ n = 0, True := fun _ => trivial
  clear tail
  cases kn with
  | false =>
    by_cases hn : n = 0
    · subst hn
      go_wp2
      all_goals
        try simp only [beq_iff_eq, beq_eq_false_iff_ne, ne_eq] at *
        go_ret
        refine ⟨ret_bool ?_, A3.out⟩
        rw [HR2.out]
        first
          | exact (decide_eq_true ⟨by simp, fun h => by omega⟩).symm
          | exact (decide_eq_false (fun h => by have := h.2 (by omega); omega)).symm
          | (rw [decide_eq_decide]; exact ⟨fun h => ⟨by simp, fun _ => by omega⟩, fun h => by have := h.2 (by omega); omega⟩)
          | (exfalso; omega)
    · have hne : decide (n = 0) = false := decide_eq_false hn
      go_wp2
      go_ret
      exact ⟨ret_bool (by rw [HR2.out]; exact (decide_eq_false (fun h => h.1.elim (fun h => by cases h) hn)).symm), A3.out⟩
  | true =>
    go_wp2
    all_goals
      try simp only [beq_iff_eq, beq_eq_false_iff_ne, ne_eq] at *
      go_ret
      refine ⟨ret_bool ?_, A3.out⟩
      rw [HR2.out]
      first
        | exact (decide_eq_true ⟨by simp, fun h => by omega⟩).symm
        | exact (decide_eq_false (fun h => by have := h.2 (by omega); omega)).symm
        | (rw [decide_eq_decide]; exact ⟨fun h => ⟨by simp, fun _ => by omega⟩, fun h => by have := h.2 (by omega); omega⟩)
        | (exfalso; omega)
end Go.Proofs.Ytbjlldenokdpeaa.Walks
