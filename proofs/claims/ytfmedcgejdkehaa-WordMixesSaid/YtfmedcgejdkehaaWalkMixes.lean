/- Walks through the functions of package word, and the statements over them. -/
import Derived.Test.YtfmedcgejdkehaaProg
import Derived.Test.YtfmedcgejdkehaaBits
import Derived.Test.YtfmedcgejdkehaaHeap
import Derived.Lib.Hide
import Derived.Test.YtfmedcgejdkehaaPureWordFields
import Derived.WalkKit
import Derived.WalkSpells
import Derived.WalkLawsBesides
import Derived.Deep.QuietTactic
import Derived.BigQuiet
namespace Go.Proofs.Ytfmedcgejdkehaa.Walks
open Go.RowKit Go.Proofs.Ytfmedcgejdkehaa.Bits Go.Proofs.Ytfmedcgejdkehaa.Heap

theorem ret_int {k : IntKind} {a b : Int} (h : a = b) : Ending.returned (.int k a) = .returned (.int k b) := by rw [h]
theorem ret_bool {a b : Bool} (h : a = b) : Ending.returned (.bool a) = .returned (.bool b) := by rw [h]
/-- A product's upper half, of the upper and lower halves of its parts. -/
theorem mul_hi (A B : Int) :
    A * 2654435769 + (A * 2135587861 + B * 2135587861 / 4294967296) / 4294967296 + ((A * 2135587861 + B * 2135587861 / 4294967296) % 4294967296 + B * 2654435769) / 4294967296 = (A * 4294967296 + B) * 11400714819323198485 / 18446744073709551616 := by
  omega
theorem mul_lo (A B : Int) :
    (((A * 2135587861 + B * 2135587861 / 4294967296) % 4294967296 + B * 2654435769) % 4294967296) * 4294967296 + B * 2135587861 % 4294967296 = (A * 4294967296 + B) * 11400714819323198485 % 18446744073709551616 := by
  omega
theorem and32 {m : Nat} (hm : m < 2 ^ 64) : bits .and .u64 (m : Int) 4294967295 = (m : Int) % 4294967296 := by
  have := bits_and (k := .u64) rfl hm (n := 4294967295) (by decide)
  rw [show ((4294967295 : Nat) : Int) = 4294967295 from rfl, show (4294967295 : Nat) = 2 ^ 32 - 1 from rfl, Nat.and_two_pow_sub_one_eq_mod] at this
  exact this
/-- A word turned left by 17. -/
def rot17 (m : Nat) : Nat := 2 ^ 17 * (m % 2 ^ 47) + m / 2 ^ 47
def mixN (s x : Nat) : Nat := rot17 ((s ^^^ x) * 11400714819323198485 / 18446744073709551616) ^^^ ((s ^^^ x) * 11400714819323198485 % 18446744073709551616)
theorem rot17_lt {m : Nat} (hm : m < 2 ^ 64) : rot17 m < 2 ^ 64 := by unfold rot17; omega
theorem rot17_or {m : Nat} (hm : m < 2 ^ 64) : bits .or .u64 (IntKind.u64.wrap ((m : Int) * 131072)) ((m : Int) / 140737488355328) = ((rot17 m : Nat) : Int) := by
  have h1 : 2 ^ 17 * (m % 2 ^ 47) < 2 ^ 64 := by omega
  have h2 : m / 2 ^ 47 < 2 ^ 17 := by omega
  have e1 : IntKind.u64.wrap ((m : Int) * 131072) = ((2 ^ 17 * (m % 2 ^ 47) : Nat) : Int) := by rw [wrap_u64]; omega
  have e2 : (m : Int) / 140737488355328 = ((m / 2 ^ 47 : Nat) : Int) := by omega
  rw [e1, e2, bits_or (k := .u64) rfl h1 (Nat.lt_of_lt_of_le h2 (by decide)), ← Nat.two_pow_add_eq_or_of_lt h2]
  rfl
theorem mixN_lt (s x : Nat) (hs : s < 2 ^ 64) (hx : x < 2 ^ 64) : mixN s x < 2 ^ 64 := by
  have hm := Nat.xor_lt_two_pow hs hx
  unfold mixN
  generalize s ^^^ x = m at hm ⊢
  exact Nat.xor_lt_two_pow (rot17_lt (by omega)) (by omega)
theorem mul_hi_wrapped {m : Nat} (hm : m < 2 ^ 64) :
    IntKind.u64.wrap (IntKind.u64.wrap ((m : Int) / 4294967296 * 2654435769 + ((m : Int) / 4294967296 * 2135587861 + (m : Int) % 4294967296 * 2135587861 / 4294967296) / 4294967296) +
      IntKind.u64.wrap (bits .and .u64 ((m : Int) / 4294967296 * 2135587861 + (m : Int) % 4294967296 * 2135587861 / 4294967296) 4294967295 + (m : Int) % 4294967296 * 2654435769) / 4294967296) = ((m * 11400714819323198485 / 18446744073709551616 : Nat) : Int) := by
  have e := and32 (m := m / 4294967296 * 2135587861 + m % 4294967296 * 2135587861 / 4294967296) (by omega)
  have e2 : ((m / 4294967296 * 2135587861 + m % 4294967296 * 2135587861 / 4294967296 : Nat) : Int) = (m : Int) / 4294967296 * 2135587861 + (m : Int) % 4294967296 * 2135587861 / 4294967296 := by omega
  rw [e2] at e
  rw [e, wrap_u64, wrap_u64, wrap_u64]
  have h := mul_hi ((m : Int) / 4294967296) ((m : Int) % 4294967296)
  have hA : 0 ≤ (m : Int) / 4294967296 ∧ (m : Int) / 4294967296 < 4294967296 := by omega
  have hB : 0 ≤ (m : Int) % 4294967296 ∧ (m : Int) % 4294967296 < 4294967296 := by omega
  have hm2 : (m : Int) = (m : Int) / 4294967296 * 4294967296 + (m : Int) % 4294967296 := by omega
  have e3 : ((m * 11400714819323198485 / 18446744073709551616 : Nat) : Int) = ((m : Int) / 4294967296 * 4294967296 + (m : Int) % 4294967296) * 11400714819323198485 / 18446744073709551616 := by
    rw [← hm2]; omega
  rw [e3, ← h]
  have h4 : ((m : Int) / 4294967296 * 4294967296 + (m : Int) % 4294967296) * 11400714819323198485 / 18446744073709551616 < 18446744073709551616 := by omega
  rw [← h] at h4
  clear e e2 e3 h hm2
  generalize (m : Int) / 4294967296 = A at *
  generalize (m : Int) % 4294967296 = B at *
  have b1 : 0 ≤ B * 2135587861 / 4294967296 ∧ B * 2135587861 / 4294967296 < 2135587861 := by omega
  generalize B * 2135587861 / 4294967296 = y at *
  have b2 : 0 ≤ (A * 2135587861 + y) / 4294967296 ∧ (A * 2135587861 + y) / 4294967296 < 2135587861 := by omega
  have b3 : 0 ≤ (A * 2135587861 + y) % 4294967296 ∧ (A * 2135587861 + y) % 4294967296 < 4294967296 := by omega
  generalize (A * 2135587861 + y) / 4294967296 = z at *
  generalize (A * 2135587861 + y) % 4294967296 = u at *
  have e1 : (A * 2654435769 + z) % 18446744073709551616 = A * 2654435769 + z := Int.emod_eq_of_lt (by omega) (by omega)
  have e2 : (u + B * 2654435769) % 18446744073709551616 = u + B * 2654435769 := Int.emod_eq_of_lt (by omega) (by omega)
  rw [e1, e2]
  exact Int.emod_eq_of_lt (by omega) h4
theorem mul_lo_wrapped (m : Nat) : IntKind.u64.wrap ((m : Int) * 11400714819323198485) = ((m * 11400714819323198485 % 18446744073709551616 : Nat) : Int) := by
  rw [wrap_u64]; omega
theorem ret_two {k k' : IntKind} {a b c d : Int} (h : a = b) (h' : c = d) : Ending.returned (.tuple #[.int k a, .int k' c]) = .returned (.tuple #[.int k b, .int k' d]) := by rw [h, h']
set_option maxHeartbeats 1000000 in
theorem mul64_calls {m : Nat} (hm : m < 2 ^ 64) (w : World) :
    Calls Try.prog 21 #[.int .u64 m, .int .u64 11400714819323198485] w fun e w' => e = .returned (.tuple #[.int .u64 ((m * 11400714819323198485 / 18446744073709551616 : Nat) : Int), .int .u64 ((m * 11400714819323198485 % 18446744073709551616 : Nat) : Int)]) ∧ w = w' := by
  have hK : bits .and .u64 11400714819323198485 4294967295 = 2135587861 := by decide +kernel
  have hM := and32 hm
  go_enter Try.func21, Try.ntmps21
  go_wp2
  go_ret2
  exact ⟨ret_two (mul_hi_wrapped hm) (mul_lo_wrapped m), rfl⟩
set_option maxHeartbeats 1000000 in
theorem rot64_calls {m : Nat} (hm : m < 2 ^ 64) (w : World) :
    Calls Try.prog 22 #[.int .u64 m, .int .i64 17] w fun e w' => e = .returned (.int .u64 (rot17 m)) ∧ w = w' := by
  have h17 : bits .and .u64 17 63 = 17 := by decide +kernel
  have HR := Lib.hid (rot17_or hm)
  go_enter Try.func22, Try.ntmps22
  go_wp2
  go_ret
  exact ⟨ret_int HR.out, rfl⟩
set_option maxHeartbeats 1000000 in
theorem mix_calls {s x : Nat} (hs : s < 2 ^ 64) (hx : x < 2 ^ 64) (w : World) :
    Calls Try.prog 18 #[.int .u64 s, .int .u64 x] w fun e w' => e = .returned (.int .u64 (mixN s x)) ∧ w = w' := by
  have HX := Lib.hid (bits_xor (k := .u64) rfl hs hx)
  have hm : s ^^^ x < 2 ^ 64 := Nat.xor_lt_two_pow hs hx
  have hR : rot17 ((s ^^^ x) * 11400714819323198485 / 18446744073709551616) < 2 ^ 64 := rot17_lt (by omega)
  have HE := Lib.hid (bits_xor (k := .u64) rfl hR (n := (s ^^^ x) * 11400714819323198485 % 18446744073709551616) (Nat.mod_lt _ (by omega)))
  clear hR
  go_enter Try.func18, Try.ntmps18
  go_wp2_with fail
  rw [HX.out]
  refine (mul64_calls hm _).mono ?_
  rintro e w' ⟨rfl, rfl⟩
  go_wp2_with fail
  refine (rot64_calls (m := (s ^^^ x) * 11400714819323198485 / 18446744073709551616) (by omega) _).mono ?_
  rintro e w' ⟨rfl, rfl⟩
  go_wp2_with fail
  go_ret
  exact ⟨ret_int HE.out, rfl⟩
theorem refmix_hi (m : Nat) : (m : Int) / 4294967296 * 2654435769 + ((m : Int) / 4294967296 * 2135587861 + (m : Int) % 4294967296 * 2135587861 / 4294967296) / 4294967296 +
      ((m : Int) % 4294967296 * 2654435769 + ((m : Int) / 4294967296 * 2135587861 + (m : Int) % 4294967296 * 2135587861 / 4294967296) % 4294967296) / 4294967296 = ((m * 11400714819323198485 / 18446744073709551616 : Nat) : Int) := by
  have h := mul_hi ((m : Int) / 4294967296) ((m : Int) % 4294967296)
  rw [Int.add_comm ((m : Int) % 4294967296 * 2654435769), h]
  omega
theorem refmix_lo (m : Nat) : ((m : Int) % 4294967296 * 2654435769 + ((m : Int) / 4294967296 * 2135587861 + (m : Int) % 4294967296 * 2135587861 / 4294967296)) % 4294967296 * 4294967296 + (m : Int) % 4294967296 * 2135587861 % 4294967296 = ((m * 11400714819323198485 % 18446744073709551616 : Nat) : Int) := by
  omega
theorem rot17_plus {h : Nat} (hh : h < 2 ^ 64) : IntKind.u64.wrap (IntKind.u64.wrap ((h : Int) * 131072) + (h : Int) / 140737488355328) = ((rot17 h : Nat) : Int) := by
  unfold rot17
  rw [wrap_u64, wrap_u64]
  omega
set_option maxHeartbeats 1000000 in
theorem refMix_calls {s x : Nat} (hs : s < 2 ^ 64) (hx : x < 2 ^ 64) (w : World) :
    Calls Try.prog 19 #[.int .u64 s, .int .u64 x] w fun e w' => e = .returned (.int .u64 (mixN s x)) ∧ w = w' := by
  have hX := bits_xor (k := .u64) rfl hs hx
  have hm : s ^^^ x < 2 ^ 64 := Nat.xor_lt_two_pow hs hx
  unfold mixN
  generalize s ^^^ x = m at *
  go_enter Try.func19, Try.ntmps19
  go_wp2
  go_ret
  refine ⟨ret_int ?_, rfl⟩
  rw [refmix_hi m, refmix_lo m, rot17_plus (by omega)]
  exact bits_xor (k := .u64) rfl (rot17_lt (by omega)) (Nat.mod_lt _ (by omega))
set_option maxHeartbeats 1000000 in
theorem mixes_walk (a0 a1 : Int) (w : World) (w0 : (Lit.int .u64 a0).wf = true) (w1 : (Lit.int .u64 a1).wf = true) :
    Calls Try.prog 8 #[.int .u64 a0, .int .u64 a1] w fun e w' => e = .returned (.bool true) ∧ Below w.heap.size w w' := by
  obtain ⟨s, rfl, hs⟩ := wf_u64 w0
  obtain ⟨x, rfl, hx⟩ := wf_u64 w1
  clear w0 w1
  go_enter Try.func8, Try.ntmps8
  go_wp2_with fail
  refine (PWordFields.hermitcrablaw01_awake.calls 1 true _ (Pure.awake_true 0)).mono ?_
  rintro e w' ⟨rfl, ⟨m1, rfl⟩⟩
  go_wp2_with fail
  refine (mix_calls hs hx _).mono ?_
  rintro e w' ⟨rfl, rfl⟩
  go_wp2_with fail
  refine (refMix_calls hs hx _).mono ?_
  rintro e w' ⟨rfl, rfl⟩
  go_wp2_with fail
  go_ret
  exact ⟨rfl, by repeat (first | exact Below.refl _ _ | apply below_drewN)⟩
end Go.Proofs.Ytfmedcgejdkehaa.Walks
