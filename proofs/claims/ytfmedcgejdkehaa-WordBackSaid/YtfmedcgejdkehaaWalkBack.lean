/- Walks through the functions of package word, and the statements over them. -/
import Derived.Test.YtfmedcgejdkehaaProg
import Derived.Test.YtfmedcgejdkehaaBits
import Derived.Test.YtfmedcgejdkehaaHeap
import Derived.Lib.Hide
import Derived.Test.YtfmedcgejdkehaaPureWordFields
import Derived.WalkKit
import Derived.WalkSpells
import Derived.WalkLawsBesides
import Derived.Deep.QuietTactic
import Derived.BigQuiet
namespace Go.Proofs.Ytfmedcgejdkehaa.Walks
open Go.RowKit Go.Proofs.Ytfmedcgejdkehaa.Bits Go.Proofs.Ytfmedcgejdkehaa.Heap

theorem ret_int {k : IntKind} {a b : Int} (h : a = b) : Ending.returned (.int k a) = .returned (.int k b) := by rw [h]
theorem ret_bool {a b : Bool} (h : a = b) : Ending.returned (.bool a) = .returned (.bool b) := by rw [h]
theorem fld_zero {v : Nat} {a n : Int} (h : a < 0 ∨ a > 63 ∨ n ≤ 0) : (0 : Int) = ((fld v a n : Nat) : Int) := by
  unfold fld; rw [if_pos h]; rfl
theorem div_two_pow (v : Nat) (a : Int) : (v : Int) / 2 ^ a.toNat = ((v / 2 ^ a.toNat : Nat) : Int) := by simp
theorem mask_wrap {n : Int} (h0 : 0 < n) (h1 : n < 64) : IntKind.u64.wrap (IntKind.u64.wrap (2 ^ n.toNat) - 1) = ((2 ^ n.toNat - 1 : Nat) : Int) := by
  have hlt : 2 ^ n.toNat < 2 ^ 64 := Nat.pow_lt_pow_right (by omega) (by omega)
  have hp := pow_pos n.toNat
  have e : (2 : Int) ^ n.toNat = ((2 ^ n.toNat : Nat) : Int) := by simp
  rw [e, wrap_lt (k := .u64) rfl hlt, show ((2 ^ n.toNat : Nat) : Int) - 1 = ((2 ^ n.toNat - 1 : Nat) : Int) by omega]
  exact wrap_lt (k := .u64) rfl (Nat.lt_of_le_of_lt (Nat.sub_le _ _) hlt)
theorem fld_small {v : Nat} (hv : v < 2 ^ 64) {a n : Int} (h : 0 ≤ a ∧ a ≤ 63) (h0 : 0 < n) (h1 : n < 64) :
    bits .and .u64 ((v : Int) / 2 ^ a.toNat) (IntKind.u64.wrap (IntKind.u64.wrap (2 ^ n.toNat) - 1)) = ((fld v a n : Nat) : Int) := by
  have hlt : 2 ^ n.toNat < 2 ^ 64 := Nat.pow_lt_pow_right (by omega) (by omega)
  rw [mask_wrap h0 h1, div_two_pow, bits_and rfl (Nat.lt_of_le_of_lt (Nat.div_le_self _ _) hv) (Nat.lt_of_le_of_lt (Nat.sub_le _ _) hlt), Nat.and_two_pow_sub_one_eq_mod]
  unfold fld; rw [if_neg (by omega)]
theorem fld_large {v : Nat} (hv : v < 2 ^ 64) {a n : Int} (h : 0 ≤ a ∧ a ≤ 63) (h1 : 64 ≤ n) : (v : Int) / 2 ^ a.toNat = ((fld v a n : Nat) : Int) := by
  unfold fld
  rw [if_neg (by omega), Nat.mod_eq_of_lt, div_two_pow]
  exact Nat.lt_of_lt_of_le (Nat.lt_of_le_of_lt (Nat.div_le_self _ _) hv) (Nat.pow_le_pow_right (by omega) (by omega))
set_option maxHeartbeats 1000000 in
theorem field_calls {v : Nat} (hv : v < 2 ^ 64) (a n : Int) (w : World) :
    Calls Try.prog 12 #[.int .u64 v, .int .i64 a, .int .i64 n] w fun e w' => e = .returned (.int .u64 (fld v a n)) ∧ w = w' := by
  go_enter Try.func12, Try.ntmps12
  go_wp2
  · go_ret
    exact ⟨ret_int (fld_zero (by omega)), rfl⟩
  · go_ret
    exact ⟨ret_int (fld_small hv ⟨by omega, by omega⟩ (by omega) (by omega)), rfl⟩
  · go_ret
    exact ⟨ret_int (fld_large hv ⟨by omega, by omega⟩ (by omega)), rfl⟩
  · go_ret
    exact ⟨ret_int (fld_zero (by omega)), rfl⟩
  · go_ret
    exact ⟨ret_int (fld_zero (by omega)), rfl⟩
theorem wth_same {v x : Nat} {a n : Int} (h : a < 0 ∨ a > 63 ∨ n ≤ 0) : (v : Int) = ((wth v a n x : Nat) : Int) := by
  unfold wth; rw [if_pos h]
theorem shl_wrap (m : Nat) (a : Int) : IntKind.u64.wrap ((m : Int) * 2 ^ a.toNat) = ((m * 2 ^ a.toNat % 2 ^ 64 : Nat) : Int) := by
  have e : (m : Int) * 2 ^ a.toNat = ((m * 2 ^ a.toNat : Nat) : Int) := by simp
  rw [e]; exact wrap_nat (k := .u64) rfl _
theorem wth_mask {v x m : Nat} (hv : v < 2 ^ 64) (hx : x < 2 ^ 64) {a n : Int} (h : 0 ≤ a ∧ a ≤ 63) (h0 : 0 < n) (hm : m = 2 ^ (min n 64).toNat - 1) :
    bits .or .u64 (bits .andNot .u64 (v : Int) (IntKind.u64.wrap ((m : Int) * 2 ^ a.toNat))) (IntKind.u64.wrap (bits .and .u64 (x : Int) (m : Int) * 2 ^ a.toNat)) = ((wth v a n x : Nat) : Int) := by
  have hm64 : ∀ x, x % 2 ^ 64 < 2 ^ 64 := fun x => Nat.mod_lt _ (pow_pos 64)
  have hlt : m < 2 ^ 64 := by
    rw [hm]
    have : 2 ^ (min n 64).toNat ≤ 2 ^ 64 := Nat.pow_le_pow_right (by omega) (by omega)
    have := pow_pos (min n 64).toNat
    omega
  rw [bits_and rfl hx hlt, shl_wrap, shl_wrap, bits_andNot rfl hv (hm64 _), bits_or rfl (andn_lt hv (hm64 _)) (hm64 _)]
  unfold wth
  rw [if_neg (by omega), ← hm]
set_option maxHeartbeats 1000000 in
theorem with_calls {v x : Nat} (hv : v < 2 ^ 64) (hx : x < 2 ^ 64) (a n : Int) (w : World) :
    Calls Try.prog 14 #[.int .u64 v, .int .i64 a, .int .i64 n, .int .u64 x] w fun e w' => e = .returned (.int .u64 (wth v a n x)) ∧ ∃ m, w' = w.drewN m := by
  go_enter Try.func14, Try.ntmps14
  go_wp2
  · go_ret
    exact ⟨ret_int (wth_same (by omega)), 0, rfl⟩
  · go_quiet (fail)
    go_wp2
    go_ret
    refine ⟨ret_int ?_, _, rfl⟩
    rw [mask_wrap (by omega) (by omega)]
    exact wth_mask hv hx ⟨by omega, by omega⟩ (by omega) (by rw [show (min n 64).toNat = n.toNat by omega])
  · go_quiet (fail)
    go_wp2
    go_ret
    refine ⟨ret_int ?_, _, rfl⟩
    rw [show (18446744073709551615 : Int) = ((2 ^ 64 - 1 : Nat) : Int) from rfl]
    exact wth_mask hv hx ⟨by omega, by omega⟩ (by omega) (by rw [show (min n 64).toNat = 64 by omega])
  · go_ret
    exact ⟨ret_int (wth_same (by omega)), 0, rfl⟩
  · go_ret
    exact ⟨ret_int (wth_same (by omega)), 0, rfl⟩
theorem back_field {v x : Nat} (hv : v < 2 ^ 64) {i t : Int} (hi : 0 ≤ i ∧ i ≤ 63) (ht : 1 ≤ t ∧ t ≤ 64) {s : Int} (hs : s = min t (64 - i)) : fld (wth v i t x) i t = fld x 0 s := by
  have g1 : ¬ (i < 0 ∨ i > 63 ∨ t ≤ 0) := by omega
  have g2 : ¬ ((0 : Int) < 0 ∨ (0 : Int) > 63 ∨ s ≤ 0) := by omega
  apply Nat.eq_of_testBit_eq
  intro j
  rw [testBit_fld _ g1, testBit_fld _ g2, testBit_wth hv _ g1]
  by_cases h : (j : Int) < s
  · have c1 : (j : Int) < t := by omega
    have c2 : j + i.toNat < 64 := by omega
    have c3 : i ≤ ((j + i.toNat : Nat) : Int) ∧ ((j + i.toNat : Nat) : Int) - i < t := by omega
    rw [if_pos c3, decide_eq_true c1, decide_eq_true c2, decide_eq_true h, Nat.add_sub_cancel]; rfl
  · rw [decide_eq_false h, Bool.false_and]
    by_cases h1 : (j : Int) < t
    · have c2 : ¬ j + i.toNat < 64 := by omega
      rw [decide_eq_false c2, Bool.false_and, Bool.and_false]
    · rw [decide_eq_false h1, Bool.false_and]
theorem back_with {v x : Nat} (hv : v < 2 ^ 64) {i t : Int} (hi : 0 ≤ i ∧ i ≤ 63) (ht : 1 ≤ t ∧ t ≤ 64) : wth (wth v i t x) i t (v / 2 ^ i.toNat) = v := by
  have g1 : ¬ (i < 0 ∨ i > 63 ∨ t ≤ 0) := by omega
  have hx := wth_lt hv i t x
  apply Nat.eq_of_testBit_eq
  intro j
  rw [testBit_wth hx _ g1, testBit_wth hv _ g1, testBit_div_pow]
  by_cases h : j < 64
  · by_cases c : i ≤ (j : Int) ∧ (j : Int) - i < t
    · rw [if_pos c, decide_eq_true h, Bool.true_and]; congr 1; omega
    · rw [if_neg c, if_neg c, decide_eq_true h, Bool.true_and, Bool.true_and]
  · rw [decide_eq_false h, Bool.false_and, testBit_ge hv (by omega)]
theorem nat_beq {a b : Nat} (h : a = b) : ((a : Int) == (b : Int)) = true := by simp [h]
set_option maxHeartbeats 1000000 in
theorem back_calls {v x : Nat} (hv : v < 2 ^ 64) (hx : x < 2 ^ 64) (a n : Nat) (ha : a < 256) (hn : n < 256) (w : World) :
    Calls Try.prog 5 #[.int .u64 v, .int .u8 a, .int .u8 n, .int .u64 x] w fun e w' => e = .returned (.bool true) ∧ Below w.heap.size w w' := by
  go_enter Try.func5, Try.ntmps5
  go_wp2_with fail
  refine (with_calls hv hx _ _ _).mono ?_
  rintro e w' ⟨rfl, m, rfl⟩
  go_wp2_with fail
  refine (PWordFields.hermitcrablaw01_awake.calls 1 true _ (Pure.awake_true 0)).mono ?_
  rintro e w' ⟨rfl, ⟨m1, rfl⟩⟩
  go_wp2_with fail
  refine (field_calls (wth_lt hv _ _ _) _ _ _).mono ?_
  rintro e w' ⟨rfl, rfl⟩
  go_wp2_with fail
  all_goals
    refine (PWordFields.hermitcrabref01_Field.calls 66 _ _ _ _ _ (Pure.refField_eq (Nat.le_refl _) hx _ _)).mono ?_
    rintro e w' ⟨rfl, ⟨m2, rfl⟩⟩
    have hb := back_with (x := x) hv (i := (a : Int) % 64) (t := 1 + (n : Int) % 64) (by omega) (by omega)
    rw [show ((a : Int) % 64).toNat = a % 64 by omega] at hb
    have HB := Lib.hid hb
    clear hb
    have hf := nat_beq (back_field (x := x) hv (i := (a : Int) % 64) (t := 1 + (n : Int) % 64) (by omega) (by omega) (show _ = min (1 + (n : Int) % 64) (64 - (a : Int) % 64) by first | exact (Int.min_eq_left (by omega)).symm | exact (Int.min_eq_right (by omega)).symm))
    go_wp2_with fail
    clear hf
    rw [show (v : Int) / 2 ^ (a % 64) = ((v / 2 ^ (a % 64) : Nat) : Int) by simp]
    refine (with_calls (wth_lt hv _ _ _) (Nat.lt_of_le_of_lt (Nat.div_le_self _ _) hv) _ _ _).mono ?_
    rintro e w' ⟨rfl, m3, rfl⟩
    have hf := nat_beq HB.out
    go_wp2_with fail
    go_ret
    exact ⟨rfl, by repeat (first | exact Below.refl _ _ | apply below_drewN)⟩
theorem back_walk (a0 a1 a2 a3 : Int) (w : World) (w0 : (Lit.int .u64 a0).wf = true) (w1 : (Lit.int .u8 a1).wf = true) (w2 : (Lit.int .u8 a2).wf = true) (w3 : (Lit.int .u64 a3).wf = true) :
    Calls Try.prog 5 #[.int .u64 a0, .int .u8 a1, .int .u8 a2, .int .u64 a3] w fun e w' => e = .returned (.bool true) ∧ Below w.heap.size w w' := by
  obtain ⟨v, rfl, hv⟩ := wf_u64 w0
  obtain ⟨a, rfl, ha⟩ := wf_u8 w1
  obtain ⟨n, rfl, hn⟩ := wf_u8 w2
  obtain ⟨x, rfl, hx⟩ := wf_u64 w3
  exact back_calls hv hx a n ha hn w
end Go.Proofs.Ytfmedcgejdkehaa.Walks
