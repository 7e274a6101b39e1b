/- Walks through the functions of the statement, and the statement over them: each contract says what the call answers and that nothing else changes. -/
import Derived.Test.YtfmedcgejdkehaaDoorProg
import Derived.Test.YtfmedcgejdkehaaDoorBits
import Derived.Test.YtfmedcgejdkehaaDoorHeap
import Derived.Test.YtfmedcgejdkehaaDoorAid
import Derived.Lib.Hide
import Derived.Test.YtfmedcgejdkehaaDoorArr
import Derived.Test.YtfmedcgejdkehaaDoorEql
import Derived.WalkKit
import Derived.WalkSpells
import Derived.WalkLawsBesides
import Derived.Deep.QuietTactic
import Derived.BigQuiet
import Derived.Deep.RegionHeld3
import Derived.Deep.DeepCutAuto
import Derived.Deep.CutBlock
import Derived.Lib.SlBytesConst
import Derived.StillTailTactics
import Derived.RegionTactic
import Derived.Shelf.Spec.TrailingZeros
namespace Go.Proofs.YtfmedcgejdkehaaDoor.Walks
set_option linter.unusedVariables false
set_option linter.unusedSimpArgs false
open Go.RowKit Go.Proofs.YtfmedcgejdkehaaDoor.Bits Go.Proofs.YtfmedcgejdkehaaDoor.Heap Go.Proofs.YtfmedcgejdkehaaDoor.Aid Go.Proofs.YtfmedcgejdkehaaDoor.Arr Go.Proofs.YtfmedcgejdkehaaDoor.Eql

theorem ret_int {k : IntKind} {a b : Int} (h : a = b) : Ending.returned (.int k a) = .returned (.int k b) := by rw [h]
theorem ret_bool {a b : Bool} (h : a = b) : Ending.returned (.bool a) = .returned (.bool b) := by rw [h]
/-- The table in its variable, in a later world. -/
theorem tab_heap {g : Nat} {tab : List Nat} {w w' : World} (h : TabAt g tab w) (hb : g < w.heap.size → w'.heap[g]? = w.heap[g]?) : TabAt g tab w' := fun j hj => by
  have h1 := h j hj
  have hl := World.block_lt_of_cell? w _ h1
  rw [← h1]
  simp only [World.cell?, hb hl]
theorem tab_keep {S : Nat → Prop} {g : Nat} {tab : List Nat} {w w' : World} (h : TabAt g tab w) (k : Keep S w w') (hs : ¬ S g) : TabAt g tab w' := tab_heap h fun hl => k.block g hl hs
theorem tab_below {g : Nat} {tab : List Nat} {w w' : World} (h : TabAt g tab w) (k : Below w.heap.size w w') : TabAt g tab w' := tab_heap h fun hl => k.block g hl
theorem tab_drewN {g : Nat} {tab : List Nat} {w : World} (h : TabAt g tab w) (n : Nat) : TabAt g tab (w.drewN n) := h
theorem tab_lt {g : Nat} {w : World} (h : TabAt g Lib.deBruijn64tab w) : g < w.heap.size := World.block_lt_of_cell? w _ (h 0 (by decide))
set_option maxHeartbeats 1000000 in
theorem tz_core (x k idx : Nat) (w : World) (hx0 : ((x : Int) == 0) = false)
    (key : IntKind.u64.wrap (bits BinOp.and IntKind.u64 (x : Int) (IntKind.u64.wrap (-(x : Int))) * 285870213051353865) / 288230376151711744 = (idx : Int))
    (hi : idx < 64) (hk : k < 64) (hcell : w.cell? ⟨0, idx, none⟩ = some (.int .u8 k)) :
    Calls Tryd.prog 9 #[.int .u64 x] w fun e w' => e = .returned (.int .i64 k) ∧ w = w' := by
  go_enter Tryd.func9, Tryd.ntmps9
  go_wp2_with (simp only [key])
  go_ret
  exact ⟨rfl, rfl⟩
set_option maxHeartbeats 1000000 in
theorem tz_zero (w : World) : Calls Tryd.prog 9 #[.int .u64 0] w fun e w' => e = .returned (.int .i64 64) ∧ w = w' := by
  go_enter Tryd.func9, Tryd.ntmps9
  go_wp2
  go_ret
  exact ⟨rfl, rfl⟩
theorem tz_calls (x : Nat) (hx : x < 18446744073709551616) (w : World) (hT : TabAt 0 Lib.deBruijn64tab w) :
    Calls Tryd.prog 9 #[.int .u64 x] w fun e w' => e = .returned (.int .i64 (Lib.ctz 64 x)) ∧ w = w' := by
  by_cases hx0 : x = 0
  · subst hx0
    exact tz_zero w
  · obtain ⟨hlow, hk⟩ := Lib.lowest_bit 64 x hx0 hx
    obtain ⟨hi, htab⟩ := Lib.deBruijn64_at _ hk
    have hcell := hT _ hi
    rw [htab] at hcell
    exact tz_core x _ _ w (by simp; omega) (tz64_key x _ hx hx0 hlow) hi hk hcell
set_option maxHeartbeats 1000000 in
theorem first_calls (x : Nat) (hx : x < 18446744073709551616) (w : World) (hT : TabAt 0 Lib.deBruijn64tab w) :
    Calls Tryd.prog 6 #[.int .u64 x] w fun e w' => e = .returned (.int .i64 (Lib.ctz 64 x)) ∧ w = w' := by
  have HC := Lib.hid (tz_calls x hx)
  generalize Lib.ctz 64 x = r at *
  go_enter Tryd.func6, Tryd.ntmps6
  go_wp2_with (go_at_call 9; refine (HC.out _ hT).mono ?_; rintro e w' ⟨rfl, rfl⟩)
  go_ret
  exact ⟨rfl, rfl⟩
/-- The place of the lowest one. -/
theorem ctz_form {x : Nat} (h0 : x ≠ 0) (h : x < 2 ^ 64) : ∃ m, x = (2 * m + 1) * 2 ^ Lib.ctz 64 x := by
  obtain ⟨m, hm, _⟩ := Lib.ctzFrom_spec 64 x (by omega) h
  refine ⟨m, ?_⟩
  rw [Nat.mul_comm]
  unfold Lib.ctz
  rw [if_neg h0]
  exact hm
theorem ctz_bit {x : Nat} (h0 : x ≠ 0) (h : x < 2 ^ 64) : x.testBit (Lib.ctz 64 x) = true := by
  obtain ⟨m, hm⟩ := ctz_form h0 h
  generalize Lib.ctz 64 x = c at *
  subst hm
  rw [testBit_mul_pow]
  simp [Nat.testBit_zero]
theorem ctz_low {x : Nat} (h0 : x ≠ 0) (h : x < 2 ^ 64) {j : Nat} (hj : j < Lib.ctz 64 x) : x.testBit j = false := by
  obtain ⟨m, hm⟩ := ctz_form h0 h
  generalize Lib.ctz 64 x = c at *
  subst hm
  rw [testBit_mul_pow]
  simp; omega
theorem ctz_lt {x b : Nat} (h0 : x ≠ 0) (h : x < 2 ^ 64) (hb : x < 2 ^ b) : Lib.ctz 64 x < b := by
  rcases Nat.lt_or_ge (Lib.ctz 64 x) b with h1 | h1
  · exact h1
  · have h2 := ctz_bit h0 h
    rw [testBit_ge hb h1] at h2
    cases h2
theorem ctz_unique {x c : Nat} (h : x < 2 ^ 64) (h1 : x.testBit c = true) (h2 : ∀ j, j < c → x.testBit j = false) : Lib.ctz 64 x = c := by
  have h0 : x ≠ 0 := by intro e; rw [e] at h1; simp at h1
  rcases Nat.lt_trichotomy (Lib.ctz 64 x) c with hl | hl | hl
  · have := ctz_bit h0 h; rw [h2 _ hl] at this; cases this
  · exact hl
  · have := ctz_low h0 h hl; rw [h1] at this; cases this

def firstF (x : Nat) : Nat → Int
  | 0 => 64
  | k + 1 => if x.testBit (63 - k) = true then ((63 - k : Nat) : Int) else firstF x k
theorem firstF_step (x : Nat) {m : Nat} (hm : m < 64) : firstF x (64 - m) = if x.testBit m = true then (m : Int) else firstF x (64 - (m + 1)) := by
  rw [show 64 - m = (64 - (m + 1)) + 1 by omega]
  simp only [firstF]
  rw [show 63 - (64 - (m + 1)) = m by omega]
theorem firstF_zero : ∀ k, firstF 0 k = 64
  | 0 => rfl
  | k + 1 => by simp only [firstF]; rw [if_neg (by simp)]; exact firstF_zero k
theorem firstF_some {x c : Nat} (h1 : x.testBit c = true) (h2 : ∀ j, j < c → x.testBit j = false) (hc : c < 64) : ∀ k, k ≤ 64 → 64 ≤ k + c → firstF x k = (c : Int) := by
  intro k
  induction k with
  | zero => intro _ h; omega
  | succ k ih =>
    intro hk hkc
    simp only [firstF]
    by_cases e : 63 - k = c
    · rw [if_pos (by rw [e]; exact h1), e]
    · have hlt : 63 - k < c ∨ c < 63 - k := by omega
      rcases hlt with hlt | hlt
      · rw [if_neg (by rw [h2 _ hlt]; simp)]
        exact ih (by omega) (by omega)
      · omega
theorem firstF_ctz {x : Nat} (hx : x < 2 ^ 64) : firstF x 64 = (Lib.ctz 64 x : Int) := by
  by_cases h0 : x = 0
  · subst h0
    rw [firstF_zero]
    rfl
  · exact firstF_some (ctz_bit h0 hx) (fun j hj => ctz_low h0 hx hj) (ctz_lt h0 hx hx) 64 (by omega) (by omega)
theorem mod2_bit (x i : Nat) : (x / 2 ^ i) % 2 = 1 ↔ x.testBit i = true := by
  rw [Nat.testBit_eq_decide_div_mod_eq]; simp
theorem int_bit (x m : Nat) : ((x : Int) / 2 ^ m % 2 == 1) = x.testBit m := by
  rw [Bool.eq_iff_iff, ← mod2_bit, beq_iff_eq]
  have e : (x : Int) / 2 ^ m % 2 = ((x / 2 ^ m % 2 : Nat) : Int) := by simp
  rw [e]; omega
set_option maxHeartbeats 1000000 in
theorem bit_calls (x : Int) (m : Nat) (hm : (m : Int) < 64) (hx0 : 0 ≤ x) (hx1 : x < 18446744073709551616) (w : World) :
    Calls Tryd.prog 4 #[.int .u64 x, .int .i64 (m : Int)] w fun e w' => e = .returned (.int .u64 (x / 2 ^ m % 2)) ∧ w = w' := by
  have hm0 : 0 ≤ (m : Int) := by omega
  have hq0 : 0 ≤ x / 2 ^ m := Int.ediv_nonneg hx0 (Int.pow_nonneg (by omega))
  have hd1 : decide ((m : Int) < 0) = false := decide_eq_false (by omega)
  have hd2 : decide (63 < (m : Int)) = false := decide_eq_false (by omega)
  go_enter Tryd.func4, Tryd.ntmps4
  go_wp2
  go_ret
  exact ⟨rfl, rfl⟩
set_option maxHeartbeats 1000000 in
theorem field_c (w : World) : Calls Tryd.prog 7 #[.int .u64 240, .int .i64 4, .int .i64 4] w fun e w' => e = .returned (.int .u64 15) ∧ w = w' := by
  have hb : bits .and .u64 15 15 = 15 := by decide +kernel
  go_enter Tryd.func7, Tryd.ntmps7
  go_wp2
  go_ret
  exact ⟨ret_int (by decide +kernel), rfl⟩
set_option maxHeartbeats 1000000 in
theorem sign_c (w : World) : Calls Tryd.prog 8 #[.int .u64 8, .int .i64 4] w fun e w' => e = .returned (.int .u64 18446744073709551608) ∧ w = w' := by
  go_enter Tryd.func8, Tryd.ntmps8
  go_wp2
  go_ret
  exact ⟨ret_int (by decide +kernel), rfl⟩
set_option maxHeartbeats 1000000 in
theorem awake_calls (w : World) : Calls Tryd.prog 5 #[] w fun e w' => e = .returned (.bool true) ∧ w = w' := by
  go_enter Tryd.func5, Tryd.ntmps5
  go_wp2_with (first | (go_at_call 7; refine (field_c _).mono ?_; rintro e w1 ⟨rfl, rfl⟩) | (go_at_call 8; refine (sign_c _).mono ?_; rintro e w1 ⟨rfl, rfl⟩))
  go_ret
  exact ⟨rfl, rfl⟩
set_option maxHeartbeats 2000000 in
theorem wordFirst_walk (a0 : Int) (w : World) (w0 : (Lit.int .u64 a0).wf = true) (hT : TabAt 0 Lib.deBruijn64tab w) :
    Calls Tryd.prog 3 #[.int .u64 a0] w fun e w' => e = .returned (.bool true) ∧ Below w.heap.size w w' := by
  obtain ⟨x, rfl, hx⟩ := wf_u64 w0
  have HF := Lib.hid (first_calls x hx)
  have HW := Lib.hid (firstF_ctz hx)
  have IB := Lib.hid (int_bit x)
  have ST := Lib.hid (fun m (hm : m < 64) => firstF_step x hm)
  have HT := Lib.hid hT
  clear hT w0
  have HB : Hid (∀ m : Nat, (m : Int) < 64 → ∀ w, Calls Tryd.prog 4 #[.int .u64 (x : Int), .int .i64 (m : Int)] w fun e w' => e = .returned (.int .u64 ((x : Int) / 2 ^ m % 2)) ∧ w = w') := fun m hm w => bit_calls x m hm (by omega) (by omega) w
  generalize Lib.ctz 64 x = rc at *
  generalize hX : (x : Int) = X at *
  clear hX
  go_enter Tryd.func3, Tryd.ntmps3
  go_wp2
  go_loop [3, 4] (fun t i => ∃ j : Nat, j ≤ 64 ∧ i = .int .i64 ((j : Int) - 1) ∧ t = .int .i64 (firstF x (64 - j))) (fun _ i => (1 + intOf i).toNat)
  case atStart => exact ⟨64, by omega, rfl, rfl⟩
  case round =>
    obtain ⟨j, hk, rfl, rfl⟩ := hrel
    cases j with
    | succ m =>
      rw [show ((m + 1 : Nat) : Int) - 1 = (m : Int) by omega]
      have hm : m < 64 := by omega
      have hm0 : 0 ≤ (m : Int) := by omega
      have hm1 : (m : Int) < 64 := by omega
      have S1 := Lib.hid (ST.out m hm)
      have bb := IB.out m
      have BC := Lib.hid (HB.out m hm1)
      generalize firstF x (64 - (m + 1)) = t0 at *
      generalize X / 2 ^ m % 2 = q at *
      generalize hwf : firstF x (64 - m) = t1 at *
      have HW1 := Lib.hid hwf
      clear hwf hk
      cases ht : x.testBit m with
      | true =>
        have e := Lib.hid (show t1 = (m : Int) by rw [S1.out, if_pos ht])
        rw [ht] at bb
        clear S1 ht
        go_wp2_with (go_at_call 4; refine (BC.out _).mono ?_; rintro e w1 ⟨rfl, rfl⟩)
        go_round
        case rel => exact ⟨m, by omega, rfl, by rw [HW1.out, e.out]⟩
        case measure => simp [intOf]; omega
      | false =>
        have e := Lib.hid (show t1 = t0 by rw [S1.out, if_neg (by rw [ht]; simp)])
        rw [ht] at bb
        clear S1 ht
        go_wp2_with (go_at_call 4; refine (BC.out _).mono ?_; rintro e w1 ⟨rfl, rfl⟩)
        go_round
        case rel => exact ⟨m, by omega, rfl, by rw [HW1.out, e.out]⟩
        case measure => simp [intOf]; omega
    | zero =>
      have e8 : (64 : Nat) - 0 = 64 := rfl
      rw [e8, HW.out]
      clear e8 hk
      generalize (rc : Int) = rr at *
      go_wp2_with (first | (go_at_call 5; refine (awake_calls _).mono ?_; rintro e w1 ⟨rfl, rfl⟩) | (go_at_call 6; refine (HF.out _ HT.out).mono ?_; rintro e w1 ⟨rfl, rfl⟩))
      go_ret
      exact ⟨rfl, Below.refl _ _⟩
end Go.Proofs.YtfmedcgejdkehaaDoor.Walks
