/- Walks through the functions of the statement, and the statement over them: each contract says what the call answers and that nothing else changes. -/
import Derived.Test.YtpimjioamoaejaaProg
import Derived.Test.YtpimjioamoaejaaBits
import Derived.Test.YtpimjioamoaejaaHeap
import Derived.Test.YtpimjioamoaejaaAid
import Derived.Lib.Hide
import Derived.WalkKit
import Derived.WalkSpells
import Derived.WalkLawsBesides
import Derived.Deep.QuietTactic
import Derived.BigQuiet
import Derived.Deep.DeepCutAuto
import Derived.Deep.CutBlock
import Derived.Lib.SlBytesConst
namespace Go.Proofs.Ytpimjioamoaejaa.Walks
set_option linter.unusedVariables false
open Go.RowKit Go.Proofs.Ytpimjioamoaejaa.Bits Go.Proofs.Ytpimjioamoaejaa.Heap Go.Proofs.Ytpimjioamoaejaa.Aid

theorem ret_int {k : IntKind} {a b : Int} (h : a = b) : Ending.returned (.int k a) = .returned (.int k b) := by rw [h]
theorem ret_bool {a b : Bool} (h : a = b) : Ending.returned (.bool a) = .returned (.bool b) := by rw [h]
/-- CRC-32: one bit's step, a byte's, a row's; and as the document has it, bit by bit. -/
def cstep (r : Nat) : Nat := (r / 2) ^^^ (if r % 2 = 1 then 3988292384 else 0)
def cstepN : Nat → Nat → Nat
  | 0, r => r
  | n + 1, r => cstep (cstepN n r)
def cbyte (r b : Nat) : Nat := cstepN 8 (r ^^^ b)
def crcFrom (r : Nat) (l : List Nat) : Nat := l.foldl cbyte r
def crc (l : List Nat) : Nat := 4294967295 - crcFrom 4294967295 l
def bstep (r one : Nat) : Nat := if r % 2 ≠ one then (r / 2) ^^^ 3988292384 else r / 2
def refst (l : List Nat) : Nat → Nat
  | 0 => 4294967295
  | k + 1 => bstep (refst l k) ((l.getD (k / 8) 0 / 2 ^ (k % 8)) % 2)
theorem cstep_lt {r : Nat} (h : r < 2 ^ 32) : cstep r < 2 ^ 32 := by
  unfold cstep
  refine Nat.xor_lt_two_pow (by omega) ?_
  split <;> omega
theorem cstepN_lt (n : Nat) {r : Nat} (h : r < 2 ^ 32) : cstepN n r < 2 ^ 32 := by
  induction n with
  | zero => exact h
  | succ n ih => exact cstep_lt ih
theorem cbyte_lt {r b : Nat} (h : r < 2 ^ 32) (hb : b < 256) : cbyte r b < 2 ^ 32 := cstepN_lt 8 (Nat.xor_lt_two_pow h (by omega))
theorem crcFrom_lt (l : List Nat) : ∀ (r : Nat), r < 2 ^ 32 → (∀ x ∈ l, x < 256) → crcFrom r l < 2 ^ 32 := by
  induction l with
  | nil => exact fun r h _ => h
  | cons x l ih => exact fun r h hx => ih _ (cbyte_lt h (hx x (by simp))) (fun y hy => hx y (by simp [hy]))
theorem crcFrom_snoc (r : Nat) (l : List Nat) (x : Nat) : crcFrom r (l ++ [x]) = cbyte (crcFrom r l) x := by simp [crcFrom]
theorem bstep_lt {r one : Nat} (h : r < 2 ^ 32) : bstep r one < 2 ^ 32 := by
  unfold bstep
  split
  · exact Nat.xor_lt_two_pow (by omega) (by decide)
  · omega
theorem refst_lt (l : List Nat) (k : Nat) : refst l k < 2 ^ 32 := by
  induction k with
  | zero => show 4294967295 < 2 ^ 32; omega
  | succ k ih => exact bstep_lt ih
/-- A step of a sum in which a byte's rest is mixed. -/
theorem xor_mod2 (r c : Nat) : (r ^^^ c) % 2 = (r % 2 + c % 2) % 2 := by
  have h : ((r ^^^ c) % 2).testBit 0 = ((r % 2 + c % 2) % 2).testBit 0 := by
    simp only [Nat.testBit_zero, Nat.mod_mod]
    have := Nat.testBit_xor r c 0
    simp only [Nat.testBit_zero] at this
    rw [this]
    rcases Nat.mod_two_eq_zero_or_one r with h1 | h1 <;> rcases Nat.mod_two_eq_zero_or_one c with h2 | h2 <;> simp [h1, h2]
  simp only [Nat.testBit_zero, Nat.mod_mod] at h
  rcases Nat.mod_two_eq_zero_or_one (r ^^^ c) with h1 | h1 <;> rcases Nat.mod_two_eq_zero_or_one (r % 2 + c % 2) with h2 | h2 <;> simp_all
theorem xor_div2 (r c : Nat) : (r ^^^ c) / 2 = (r / 2) ^^^ (c / 2) := Nat.xor_div_two
theorem cstep_xor (r c : Nat) : cstep (r ^^^ c) = bstep r (c % 2) ^^^ (c / 2) := by
  unfold cstep bstep
  rw [xor_div2, xor_mod2]
  rcases Nat.mod_two_eq_zero_or_one r with h1 | h1 <;> rcases Nat.mod_two_eq_zero_or_one c with h2 | h2 <;> simp [h1, h2]
  · rw [Nat.xor_assoc, Nat.xor_assoc, Nat.xor_comm (c / 2)]
  · rw [Nat.xor_assoc, Nat.xor_assoc, Nat.xor_comm (c / 2)]
theorem cstepN_xor (r b : Nat) (n : Nat) : cstepN n (r ^^^ b) = (Nat.rec (motive := fun _ => Nat) r (fun j s => bstep s (b / 2 ^ j % 2)) n) ^^^ (b / 2 ^ n) := by
  induction n with
  | zero => show r ^^^ b = r ^^^ (b / 2 ^ 0); rw [Nat.pow_zero, Nat.div_one]
  | succ n ih => rw [cstepN, ih, cstep_xor, Nat.div_div_eq_div_mul, ← Nat.pow_succ]
theorem refst_byte (l : List Nat) (n : Nat) : ∀ j, j ≤ 8 → refst l (8 * n + j) = (Nat.rec (motive := fun _ => Nat) (refst l (8 * n)) (fun j s => bstep s (l.getD n 0 / 2 ^ j % 2)) j) := by
  intro j
  induction j with
  | zero => exact fun _ => rfl
  | succ j ih =>
    intro hj
    rw [← Nat.add_assoc, refst, ih (by omega), show (8 * n + j) / 8 = n by omega, show (8 * n + j) % 8 = j by omega]
theorem refst_crc (l : List Nat) (hl : ∀ x ∈ l, x < 256) (n : Nat) (hn : n ≤ l.length) : refst l (8 * n) = crcFrom 4294967295 (l.take n) := by
  induction n with
  | zero => rfl
  | succ n ih =>
    have hlt : n < l.length := by omega
    rw [List.take_succ_eq_append_getElem hlt, crcFrom_snoc, ← ih (by omega)]
    show refst l (8 * n + 8) = _
    rw [refst_byte l n 8 (Nat.le_refl _)]
    unfold cbyte
    rw [cstepN_xor]
    have hb := hl l[n] (List.getElem_mem hlt)
    have e : l[n] / 2 ^ 8 = 0 := Nat.div_eq_of_lt (by omega)
    have e2 : l.getD n 0 = l[n] := by simp [List.getD, List.getElem?_eq_getElem hlt]
    rw [e, Nat.xor_zero, e2]
theorem cstep_val {r : Nat} (hr : r < 2 ^ 32) : bits .xor .u32 ((r : Int) / 2) (bits .and .u32 3988292384 (-bits .and .u32 (r : Int) 1 % 4294967296)) = ((cstep r : Nat) : Int) := by
  have e1 : bits .and .u32 (r : Int) 1 = ((r % 2 : Nat) : Int) := by
    have := bits_and (k := .u32) rfl hr (n := 1) (by decide)
    rw [show ((1 : Nat) : Int) = 1 from rfl, show (1 : Nat) = 2 ^ 1 - 1 from rfl, Nat.and_two_pow_sub_one_eq_mod] at this
    exact this
  have e2 : (r : Int) / 2 = ((r / 2 : Nat) : Int) := by omega
  rw [e1, e2]
  unfold cstep
  rcases Nat.mod_two_eq_zero_or_one r with h | h
  · rw [h, if_neg (by omega), show -((0 : Nat) : Int) % 4294967296 = 0 by decide, show bits .and .u32 3988292384 0 = ((0 : Nat) : Int) by decide +kernel]
    exact bits_xor (k := .u32) rfl (by show r / 2 < 2 ^ 32; omega) (by decide)
  · rw [h, if_pos rfl, show -((1 : Nat) : Int) % 4294967296 = 4294967295 by decide, show bits .and .u32 3988292384 4294967295 = ((3988292384 : Nat) : Int) by decide +kernel]
    exact bits_xor (k := .u32) rfl (by show r / 2 < 2 ^ 32; omega) (by decide)
theorem bits_not32 {r : Nat} (hr : r < 2 ^ 32) : (4294967295 : Nat) - r = 4294967295 ^^^ r := by
  apply Nat.eq_of_testBit_eq
  intro i
  have e : (4294967295 : Nat) - r = 2 ^ 32 - (r + 1) := by omega
  rw [e, Nat.testBit_two_pow_sub_succ hr, Nat.testBit_xor, show (4294967295 : Nat) = 2 ^ 32 - 1 from rfl, Nat.testBit_two_pow_sub_one]
  by_cases hi : i < 32
  · simp [hi]
  · simp [hi, testBit_ge hr (show 32 ≤ i by omega)]
theorem crc_val {r : Nat} (hr : r < 2 ^ 32) : bits .xor .u32 IntKind.u32.max (r : Int) = ((4294967295 - r : Nat) : Int) := by
  have := bits_xor (k := .u32) rfl (show 4294967295 < 2 ^ 32 by omega) hr
  rw [bits_not32 hr, ← this]
  rfl
theorem bstep_ne {r b s : Nat} (hr : r < 2 ^ 32) (h : ((r : Int) % 2 != (b : Int) / 2 ^ s % 2) = true) : bits .xor .u32 ((r : Int) / 2) 3988292384 = ((bstep r (b / 2 ^ s % 2) : Nat) : Int) := by
  have e : (r : Int) / 2 = ((r / 2 : Nat) : Int) := by omega
  have e2 : (b : Int) / 2 ^ s % 2 = ((b / 2 ^ s % 2 : Nat) : Int) := by simp
  rw [e2] at h
  have h1 : r % 2 ≠ b / 2 ^ s % 2 := fun h2 => by
    rw [bne_iff_ne] at h
    apply h
    rw [← h2]; omega
  unfold bstep
  rw [if_pos h1, e]
  exact bits_xor (k := .u32) rfl (by show r / 2 < 2 ^ 32; omega) (by decide)
theorem bstep_eq {r b s : Nat} (h : ((r : Int) % 2 != (b : Int) / 2 ^ s % 2) = false) : (r : Int) / 2 = ((bstep r (b / 2 ^ s % 2) : Nat) : Int) := by
  have e2 : (b : Int) / 2 ^ s % 2 = ((b / 2 ^ s % 2 : Nat) : Int) := by simp
  rw [e2] at h
  have h1 : ¬ r % 2 ≠ b / 2 ^ s % 2 := fun h2 => by
    have : (r : Int) % 2 = ((b / 2 ^ s % 2 : Nat) : Int) := by simpa using h
    apply h2
    have h3 : ((r % 2 : Nat) : Int) = ((b / 2 ^ s % 2 : Nat) : Int) := by rw [← this]; omega
    exact Int.ofNat.inj h3
  unfold bstep
  rw [if_neg h1]; omega
set_option maxHeartbeats 1000000 in
theorem sum_calls (l : List Nat) (v : Value) (w : World) (hr : Row w enc8 v l) (hx : ∀ x ∈ l, x < 256) (hn : l.length ≤ 9223372036854775807) :
    Calls Try.prog 9 #[v] w fun e w' => e = .returned (.int .u32 (crc l)) ∧ w = w' := by
  obtain ⟨a, cap, rfl⟩ : ∃ a cap, v = .slice a l.length cap := by
    rcases hr with ⟨rfl, rfl⟩ | ⟨a, cap, rfl, _, _⟩
    · exact ⟨none, 0, rfl⟩
    · exact ⟨some a, cap, rfl⟩
  go_enter Try.func9, Try.ntmps9
  go_wp2
  go_loop [3, 8] (fun x i => ∃ k : Nat, k ≤ l.length ∧ i = .int .i64 k ∧ x = .int .u32 (crcFrom 4294967295 (l.take k))) (fun _ i => l.length - (intOf i).toNat)
  case atStart => exact ⟨0, Nat.zero_le _, rfl, rfl⟩
  case round =>
    obtain ⟨k, hk, rfl, rfl⟩ := hrel
    by_cases hlt : k < l.length
    · obtain ⟨ad, rfl, hcp⟩ : ∃ ad, a = some ad ∧ w.cell? (ad.add k) = some (.int .u8 ((l[k] : Nat) : Int)) := by
        rcases hr with ⟨h, h0⟩ | ⟨ad, c', h, _, hc⟩
        · rw [h0] at hlt; simp at hlt
        · injection h with h1 _ _
          exact ⟨ad, h1, hc k _ (List.getElem?_eq_getElem hlt)⟩
      have hb := hx l[k] (List.getElem_mem hlt)
      have hy0 : 0 ≤ ((l[k] : Nat) : Int) := by omega
      have hy1 : ((l[k] : Nat) : Int) < 256 := by omega
      have hc32 := crcFrom_lt (l.take k) 4294967295 (by omega) (fun x h => hx x (List.mem_of_mem_take h))
      have HX := Lib.hid (bits_xor (k := .u32) rfl hc32 (n := l[k]) (by show l[k] < 2 ^ 32; omega))
      have HE := Lib.hid (show crcFrom 4294967295 (l.take (k + 1)) = cstepN 8 (crcFrom 4294967295 (l.take k) ^^^ l[k]) by rw [List.take_succ_eq_append_getElem hlt, crcFrom_snoc]; rfl)
      have HL := Lib.hid (fun j => cstepN_lt j (Nat.xor_lt_two_pow hc32 (show l[k] < 2 ^ 32 by omega)))
      clear hx hr hb hc32
      generalize hL : l[k] = b at *
      clear hL
      generalize hBI : (b : Int) = bi at *
      go_wp2
      rw [HX.out]
      subst hBI
      clear hy0 hy1 hcp
      generalize crcFrom 4294967295 (l.take k) ^^^ b = q at *
      go_loop [3, 16] (fun x i => ∃ j : Nat, j ≤ 8 ∧ i = .int .i64 j ∧ x = .int .u32 (cstepN j q)) (fun _ i => 8 - (intOf i).toNat)
      case atStart => exact ⟨0, by omega, rfl, rfl⟩
      case round =>
        obtain ⟨j, hj, rfl, rfl⟩ := hrel
        by_cases h8 : j < 8
        · have hlz := HL.out j
          have hz0 : 0 ≤ ((cstepN j q : Nat) : Int) := by omega
          have hz1 : ((cstepN j q : Nat) : Int) < 4294967296 := by omega
          have HS := Lib.hid (cstep_val hlz)
          clear hlz
          rw [show cstep (cstepN j q) = cstepN (j + 1) q from rfl] at HS
          generalize ((cstepN j q : Nat) : Int) = z at *
          go_wp2
          go_round
          case rel => exact ⟨j + 1, by omega, by go_num, by rw [HS.out]⟩
          case measure => simp [intOf]; omega
        · obtain rfl : j = 8 := by omega
          rw [← HE.out]
          go_wp2
          go_round
          case rel => exact ⟨k + 1, by omega, by go_num, rfl⟩
          case measure => simp [intOf]; omega
    · have hc32 := crcFrom_lt (l.take k) 4294967295 (by omega) (fun x h => hx x (List.mem_of_mem_take h))
      rw [show l.take k = l from List.take_of_length_le (by omega)] at *
      go_wp2
      go_ret
      exact ⟨ret_int (crc_val hc32), rfl⟩
set_option maxHeartbeats 1000000 in
theorem refSum_calls (l : List Nat) (v : Value) (w : World) (hr : Row w enc8 v l) (hx : ∀ x ∈ l, x < 256) (hn : l.length ≤ 1000000) :
    Calls Try.prog 10 #[v] w fun e w' => e = .returned (.int .u32 (crc l)) ∧ w = w' := by
  obtain ⟨a, cap, rfl⟩ : ∃ a cap, v = .slice a l.length cap := by
    rcases hr with ⟨rfl, rfl⟩ | ⟨a, cap, rfl, _, _⟩
    · exact ⟨none, 0, rfl⟩
    · exact ⟨some a, cap, rfl⟩
  go_enter Try.func10, Try.ntmps10
  go_wp2
  go_loop [3, 4] (fun x i => ∃ k : Nat, k ≤ 8 * l.length ∧ i = .int .i64 k ∧ x = .int .u32 (refst l k)) (fun _ i => 8 * l.length - (intOf i).toNat)
  case atStart => exact ⟨0, Nat.zero_le _, rfl, rfl⟩
  case round =>
    obtain ⟨k, hk, rfl, rfl⟩ := hrel
    by_cases hlt : k < 8 * l.length
    · have hlt8 : k / 8 < l.length := by omega
      obtain ⟨ad, rfl, hcp⟩ : ∃ ad, a = some ad ∧ w.cell? (ad.add (k / 8)) = some (.int .u8 ((l[k / 8] : Nat) : Int)) := by
        rcases hr with ⟨h, h0⟩ | ⟨ad, c', h, _, hc⟩
        · rw [h0] at hlt8; simp at hlt8
        · injection h with h1 _ _
          exact ⟨ad, h1, hc (k / 8) _ (List.getElem?_eq_getElem hlt8)⟩
      have hb := hx l[k / 8] (List.getElem_mem hlt8)
      have hy0 : 0 ≤ ((l[k / 8] : Nat) : Int) := by omega
      have hy1 : ((l[k / 8] : Nat) : Int) < 256 := by omega
      have hq := refst_lt l k
      have hz0 : 0 ≤ ((refst l k : Nat) : Int) := by omega
      have hz1 : ((refst l k : Nat) : Int) < 4294967296 := by omega
      have e0 : refst l (k + 1) = bstep (refst l k) (l[k / 8] / 2 ^ (k % 8) % 2) := by
        rw [refst]; congr 3; simp [List.getD, List.getElem?_eq_getElem hlt8]
      have HQ := Lib.hid hq
      have HE := Lib.hid e0
      clear hx hr hb hq e0
      generalize hL : l[k / 8] = b at *
      clear hL
      generalize hZ : ((refst l k : Nat) : Int) = z at *
      generalize hY : (b : Int) = y at *
      have HZ := Lib.hid hZ
      have HY := Lib.hid hY
      clear hZ hY
      go_wp2
      · rename_i hne
        rw [← HZ.out, ← HY.out] at *
        refine ⟨⟨k + 1, by omega, by go_num, ?_⟩, by simp [intOf]; omega⟩
        rw [bstep_ne HQ.out hne, ← HE.out]
      · rename_i hne
        rw [← HZ.out, ← HY.out] at *
        refine ⟨⟨k + 1, by omega, by go_num, ?_⟩, by simp [intOf]; omega⟩
        rw [bstep_eq hne, ← HE.out]
    · have hk8 : k = 8 * l.length := by omega
      have e := refst_crc l hx l.length (Nat.le_refl _)
      rw [← hk8, List.take_length] at e
      have hc32 := refst_lt l k
      have hz0 : 0 ≤ ((refst l k : Nat) : Int) := by omega
      have hz1 : ((refst l k : Nat) : Int) < 4294967296 := by omega
      have HE := Lib.hid e
      clear e
      generalize hZ : ((refst l k : Nat) : Int) = z at *
      have HZ := Lib.hid hZ
      clear hZ hx hr hk8
      go_wp2
      go_ret
      refine ⟨ret_int ?_, rfl⟩
      rw [← HZ.out]
      unfold crc
      rw [← HE.out]
      omega
theorem crc_check : crc [49, 50, 51, 52, 53, 54, 55, 56, 57] = 3421780262 := by decide +kernel
set_option maxHeartbeats 1000000 in
theorem awake_calls (w : World) :
    Calls Try.prog 8 #[] w fun e w' => e = .returned (.bool true) ∧ Below w.heap.size w w' := by
  have H := Lib.hid crc_check
  have kc := fun (w : World) (C : Array Value) (n c : Nat) => Lib.run_convert_bytes_const (P := Try.prog) w 22 5 C n c Try.underlying22 Try.underlying5
  go_enter Try.func8, Try.ntmps8
  go_wp2_with fail
  have hr := Row.marked w enc8 [49, 50, 51, 52, 53, 54, 55, 56, 57] 5 (9, 10)
  refine (sum_calls [49, 50, 51, 52, 53, 54, 55, 56, 57] _ _ hr (by decide) (by decide)).mono ?_
  rintro e w' ⟨rfl, rfl⟩
  rw [H.out]
  clear hr
  go_wp2_with fail
  go_ret
  exact ⟨rfl, (Below.refl _ _).alloc (Nat.le_refl _) _⟩
set_option maxHeartbeats 1000000 in
theorem sums_walk (v0 : Value) (w : World) (f0 : Aid.Fits w (.slice (.int .u8)) [v0]) :
    Calls Try.prog 3 #[v0] w fun e w' => e = .returned (.bool true) ∧ Below w.heap.size w w' := by
  obtain ⟨l, hr, hl, hm⟩ := bytes_row f0
  obtain ⟨a, cap, hv⟩ := hr.form
  by_cases h300 : l.length ≤ 300
  · subst hv
    have C1 := Lib.hid (fun w1 hb => sum_calls l _ w1 (hr.below hb) hl (by omega))
    have C2 := Lib.hid (fun w1 hb => refSum_calls l _ w1 (hr.below hb) hl (by omega))
    clear hr f0 hl hm
    go_enter Try.func3, Try.ntmps3
    go_wp2_with fail
    refine (awake_calls _).mono ?_
    rintro e w1 ⟨rfl, hb⟩
    have HB := Lib.hid hb
    clear hb
    go_wp2_with fail
    refine (C1.out _ HB.out).mono ?_
    rintro e w' ⟨rfl, rfl⟩
    go_wp2_with fail
    refine (C2.out _ HB.out).mono ?_
    rintro e w' ⟨rfl, rfl⟩
    go_wp2_with fail
    go_ret
    exact ⟨ret_bool (by simp), HB.out⟩
  · subst hv
    generalize l.length = n at *
    clear hr f0 hl hm
    go_enter Try.func3, Try.ntmps3
    go_wp2_with fail
    refine (awake_calls _).mono ?_
    rintro e w1 ⟨rfl, hb⟩
    have HB := Lib.hid hb
    clear hb
    go_wp2_with fail
    refine (awake_calls _).mono ?_
    rintro e w2 ⟨rfl, hb2⟩
    have HB2 := Lib.hid hb2
    clear hb2
    go_wp2_with fail
    go_ret
    exact ⟨rfl, HB.out.trans (HB2.out.mono HB.out.size)⟩
end Go.Proofs.Ytpimjioamoaejaa.Walks
