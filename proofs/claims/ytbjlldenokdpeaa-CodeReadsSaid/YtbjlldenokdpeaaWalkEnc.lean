/- Walks through the functions of the statement, and the statement over them: each contract says what the call answers and that nothing else changes. -/
import Derived.Test.YtbjlldenokdpeaaProg
import Derived.Test.YtbjlldenokdpeaaBits
import Derived.Test.YtbjlldenokdpeaaHeap
import Derived.Test.YtbjlldenokdpeaaAid
import Derived.Lib.Hide
import Derived.Test.YtbjlldenokdpeaaArr
import Derived.Test.YtbjlldenokdpeaaWalkRight
import Derived.WalkKit
import Derived.WalkSpells
import Derived.WalkLawsBesides
import Derived.Deep.QuietTactic
import Derived.BigQuiet
import Derived.Deep.DeepCutAuto
import Derived.Deep.CutBlock
import Derived.Lib.SlBytesConst
namespace Go.Proofs.Ytbjlldenokdpeaa.Walks
set_option linter.unusedVariables false
set_option linter.unusedSimpArgs false
open Go.RowKit Go.Proofs.Ytbjlldenokdpeaa.Bits Go.Proofs.Ytbjlldenokdpeaa.Heap Go.Proofs.Ytbjlldenokdpeaa.Aid Go.Proofs.Ytbjlldenokdpeaa.Arr

theorem fld_zero {v : Nat} {a n : Int} (h : a < 0 ∨ a > 63 ∨ n ≤ 0) : (0 : Int) = ((fld v a n : Nat) : Int) := by
  unfold fld; rw [if_pos h]; rfl
theorem div_two_pow (v : Nat) (a : Int) : (v : Int) / 2 ^ a.toNat = ((v / 2 ^ a.toNat : Nat) : Int) := by simp
theorem mask_wrap {n : Int} (h0 : 0 < n) (h1 : n < 64) : IntKind.u64.wrap (IntKind.u64.wrap (2 ^ n.toNat) - 1) = ((2 ^ n.toNat - 1 : Nat) : Int) := by
  have hlt : 2 ^ n.toNat < 2 ^ 64 := Nat.pow_lt_pow_right (by omega) (by omega)
  have hp := pow_pos n.toNat
  have e : (2 : Int) ^ n.toNat = ((2 ^ n.toNat : Nat) : Int) := by simp
  rw [e, wrap_lt (k := .u64) rfl hlt, show ((2 ^ n.toNat : Nat) : Int) - 1 = ((2 ^ n.toNat - 1 : Nat) : Int) by omega]
  exact wrap_lt (k := .u64) rfl (Nat.lt_of_le_of_lt (Nat.sub_le _ _) hlt)
theorem fld_small {v : Nat} (hv : v < 2 ^ 64) {a n : Int} (h : 0 ≤ a ∧ a ≤ 63) (h0 : 0 < n) (h1 : n < 64) :
    bits .and .u64 ((v : Int) / 2 ^ a.toNat) (IntKind.u64.wrap (IntKind.u64.wrap (2 ^ n.toNat) - 1)) = ((fld v a n : Nat) : Int) := by
  have hlt : 2 ^ n.toNat < 2 ^ 64 := Nat.pow_lt_pow_right (by omega) (by omega)
  rw [mask_wrap h0 h1, div_two_pow, bits_and rfl (Nat.lt_of_le_of_lt (Nat.div_le_self _ _) hv) (Nat.lt_of_le_of_lt (Nat.sub_le _ _) hlt), Nat.and_two_pow_sub_one_eq_mod]
  unfold fld; rw [if_neg (by omega)]
theorem fld_large {v : Nat} (hv : v < 2 ^ 64) {a n : Int} (h : 0 ≤ a ∧ a ≤ 63) (h1 : 64 ≤ n) : (v : Int) / 2 ^ a.toNat = ((fld v a n : Nat) : Int) := by
  unfold fld
  rw [if_neg (by omega), Nat.mod_eq_of_lt, div_two_pow]
  exact Nat.lt_of_lt_of_le (Nat.lt_of_le_of_lt (Nat.div_le_self _ _) hv) (Nat.pow_le_pow_right (by omega) (by omega))
set_option maxHeartbeats 1000000 in
theorem field_calls {v : Nat} (hv : v < 2 ^ 64) (a n : Int) (w : World) :
    Calls Try.prog 19 #[.int .u64 v, .int .i64 a, .int .i64 n] w fun e w' => e = .returned (.int .u64 (fld v a n)) ∧ w = w' := by
  go_enter Try.func19, Try.ntmps19
  go_wp2
  · go_ret
    exact ⟨ret_int (fld_zero (by omega)), rfl⟩
  · go_ret
    exact ⟨ret_int (fld_small hv ⟨by omega, by omega⟩ (by omega) (by omega)), rfl⟩
  · go_ret
    exact ⟨ret_int (fld_large hv ⟨by omega, by omega⟩ (by omega)), rfl⟩
  · go_ret
    exact ⟨ret_int (fld_zero (by omega)), rfl⟩
  · go_ret
    exact ⟨ret_int (fld_zero (by omega)), rfl⟩
theorem wth_same {v x : Nat} {a n : Int} (h : a < 0 ∨ a > 63 ∨ n ≤ 0) : (v : Int) = ((wth v a n x : Nat) : Int) := by
  unfold wth; rw [if_pos h]
theorem shl_wrap (m : Nat) (a : Int) : IntKind.u64.wrap ((m : Int) * 2 ^ a.toNat) = ((m * 2 ^ a.toNat % 2 ^ 64 : Nat) : Int) := by
  have e : (m : Int) * 2 ^ a.toNat = ((m * 2 ^ a.toNat : Nat) : Int) := by simp
  rw [e]; exact wrap_nat (k := .u64) rfl _
theorem wth_mask {v x m : Nat} (hv : v < 2 ^ 64) (hx : x < 2 ^ 64) {a n : Int} (h : 0 ≤ a ∧ a ≤ 63) (h0 : 0 < n) (hm : m = 2 ^ (min n 64).toNat - 1) :
    bits .or .u64 (bits .andNot .u64 (v : Int) (IntKind.u64.wrap ((m : Int) * 2 ^ a.toNat))) (IntKind.u64.wrap (bits .and .u64 (x : Int) (m : Int) * 2 ^ a.toNat)) = ((wth v a n x : Nat) : Int) := by
  have hm64 : ∀ x, x % 2 ^ 64 < 2 ^ 64 := fun x => Nat.mod_lt _ (pow_pos 64)
  have hlt : m < 2 ^ 64 := by
    rw [hm]
    have : 2 ^ (min n 64).toNat ≤ 2 ^ 64 := Nat.pow_le_pow_right (by omega) (by omega)
    have := pow_pos (min n 64).toNat
    omega
  rw [bits_and rfl hx hlt, shl_wrap, shl_wrap, bits_andNot rfl hv (hm64 _), bits_or rfl (andn_lt hv (hm64 _)) (hm64 _)]
  unfold wth
  rw [if_neg (by omega), ← hm]
set_option maxHeartbeats 1000000 in
theorem with_calls {v x : Nat} (hv : v < 2 ^ 64) (hx : x < 2 ^ 64) (a n : Int) (w : World) :
    Calls Try.prog 18 #[.int .u64 v, .int .i64 a, .int .i64 n, .int .u64 x] w fun e w' => e = .returned (.int .u64 (wth v a n x)) ∧ ∃ m, w' = w.drewN m := by
  go_enter Try.func18, Try.ntmps18
  go_wp2
  · go_ret
    exact ⟨ret_int (wth_same (by omega)), 0, rfl⟩
  · go_quiet (fail)
    go_wp2
    go_ret
    refine ⟨ret_int ?_, _, rfl⟩
    rw [mask_wrap (by omega) (by omega)]
    exact wth_mask hv hx ⟨by omega, by omega⟩ (by omega) (by rw [show (min n 64).toNat = n.toNat by omega])
  · go_quiet (fail)
    go_wp2
    go_ret
    refine ⟨ret_int ?_, _, rfl⟩
    rw [show (18446744073709551615 : Int) = ((2 ^ 64 - 1 : Nat) : Int) from rfl]
    exact wth_mask hv hx ⟨by omega, by omega⟩ (by omega) (by rw [show (min n 64).toNat = 64 by omega])
  · go_ret
    exact ⟨ret_int (wth_same (by omega)), 0, rfl⟩
  · go_ret
    exact ⟨ret_int (wth_same (by omega)), 0, rfl⟩
theorem wth_add (q x a n : Nat) (hx : x < 2 ^ n) (hn : 1 ≤ n) (han : a + n ≤ 64) (hq : q * 2 ^ (a + n) < 2 ^ 64) : wth (q * 2 ^ (a + n)) (a : Int) (n : Int) x = q * 2 ^ (a + n) + x * 2 ^ a := by
  refine Nat.eq_of_testBit_eq fun i => ?_
  rw [testBit_wth hq x (by omega), Int.toNat_natCast]
  have e : q * 2 ^ (a + n) + x * 2 ^ a = 2 ^ a * (2 ^ n * q + x) := by
    rw [Nat.pow_add, Nat.mul_add, Nat.mul_comm (2 ^ a) x, Nat.mul_comm q (2 ^ a * 2 ^ n), Nat.mul_assoc]
  have e2 : q * 2 ^ (a + n) = 2 ^ (a + n) * q := Nat.mul_comm _ _
  rw [e, Nat.testBit_two_pow_mul, Nat.testBit_two_pow_mul_add q hx]
  by_cases hi : i < 64
  · rw [decide_eq_true hi, Bool.true_and]
    by_cases h1 : a ≤ i
    · by_cases h2 : i - a < n
      · rw [if_pos (by omega), decide_eq_true (show i ≥ a from h1), Bool.true_and, if_pos h2]
      · rw [if_neg (by omega), decide_eq_true (show i ≥ a from h1), Bool.true_and, if_neg h2, e2, Nat.testBit_two_pow_mul, decide_eq_true (show i ≥ a + n by omega), Bool.true_and, Nat.sub_sub]
    · rw [if_neg (by omega), decide_eq_false (show ¬ i ≥ a from h1), Bool.false_and, e2, Nat.testBit_two_pow_mul, decide_eq_false (show ¬ i ≥ a + n by omega), Bool.false_and]
  · rw [decide_eq_false hi, Bool.false_and, decide_eq_true (show i ≥ a by omega), Bool.true_and, if_neg (by omega)]
    have h := Nat.testBit_lt_two_pow (Nat.lt_of_lt_of_le hq (Nat.pow_le_pow_right (by omega) (show 64 ≤ i by omega)))
    rw [e2, Nat.testBit_two_pow_mul, decide_eq_true (show i ≥ a + n by omega), Bool.true_and, ← Nat.sub_sub] at h
    exact h.symm
def wordN (c a b : Nat) : Nat := c * 67108864 + a * 4194304 + b * 262144
theorem w1_eq {c : Nat} (hc : c < 64) : wth 0 26 6 c = c * 67108864 := by
  have := wth_add 0 c 26 6 hc (by decide) (by decide) (by decide)
  simpa using this
theorem w2_eq {c a : Nat} (hc : c < 64) (ha : a < 16) : wth (c * 67108864) 22 4 a = c * 67108864 + a * 4194304 := by
  have := wth_add c a 22 4 (by omega) (by omega) (by omega) (by omega)
  simpa using this
theorem w3_eq {c a b : Nat} (hc : c < 64) (ha : a < 16) (hb : b < 16) : wth (c * 67108864 + a * 4194304) 18 4 b = wordN c a b := by
  have := wth_add (c * 16 + a) b 18 4 (by omega) (by omega) (by omega) (by omega)
  have e : (c * 16 + a) * 2 ^ (18 + 4) = c * 67108864 + a * 4194304 := by omega
  rw [e] at this
  exact this
theorem w4_eq {c a b d : Nat} (hc : c < 64) (ha : a < 16) (hb : b < 16) (hd : d < 16) : wth (wordN c a b) 0 4 d = wordN c a b + d := by
  have := wth_add (((c * 16 + a) * 16 + b) * 16384) d 0 4 (by omega) (by omega) (by omega) (by omega)
  have e : (((c * 16 + a) * 16 + b) * 16384) * 2 ^ (0 + 4) = wordN c a b := by unfold wordN; omega
  rw [e] at this
  simpa using this
theorem w5_eq {c a b u : Nat} (hc : c < 64) (ha : a < 16) (hb : b < 16) (hu : u < 65536) : wth (wordN c a b) 0 16 u = wordN c a b + u := by
  have := wth_add (((c * 16 + a) * 16 + b) * 4) u 0 16 (by omega) (by omega) (by omega) (by omega)
  have e : (((c * 16 + a) * 16 + b) * 4) * 2 ^ (0 + 16) = wordN c a b := by unfold wordN; omega
  rw [e] at this
  simpa using this
def uN (n : Int) : Nat := (n % 65536).toNat
theorem wrap_uN (n : Int) : IntKind.u64.wrap (IntKind.u16.wrap n) = ((uN n : Nat) : Int) := by
  simp [IntKind.wrap, IntKind.signed, IntKind.bits, uN]
  omega
def wordF (c a b d : Nat) (n : Int) : Nat := wordN c a b + if fC c then d else uN n
def encW (c a b d : Nat) (n : Int) : Nat := if rightB c a b d n = true then wordF c a b d n else 0
theorem rightB_lt {c a b d : Nat} {n : Int} (h : rightB c a b d n = true) : c < 23 ∧ a < 16 ∧ b < 16 ∧ d < 16 := by
  have h := of_decide_eq_true h
  have h1 := of_decide_eq_true h.2.1
  have h2 := of_decide_eq_true h.2.2.1
  have h3 := of_decide_eq_true h.2.2.2.1
  omega
theorem sizeBool : (Try.prog.info? 4).map (·.size) = some 1 := by kernel_rfl
theorem run_kindC (w : World) (a b c d : Bool) : (Instr.field 45 (.agg #[.bool a, .bool b, .bool c, .bool d]) 2).run Try.prog w = .ok (.bool c) w :=
  run_field_one (cs := [.bool a, .bool b, .bool c, .bool d]) w Try.underlying45 rfl Try.underlying4 rfl sizeBool rfl
set_option maxHeartbeats 4000000 in
theorem encode_calls (c a b d : Nat) (n : Int) (hc : c < 256) (ha : a < 256) (hb : b < 256) (hd : d < 256) (hn : -32768 ≤ n ∧ n ≤ 32767) (w : World) :
    Calls Try.prog 12 #[.agg #[.int .u8 c, .int .u8 a, .int .u8 b, .int .u8 d, .int .i16 n]] w fun e w' => e = .returned (.tuple #[.int .u32 (encW c a b d n : Nat), .bool (rightB c a b d n)]) ∧ Below w.heap.size w w' := by
  have HR := Lib.hid (right_calls c a b d n (by omega))
  have HF := Lib.hid (fields_calls c (by omega))
  have HW : Hid (∀ {v x : Nat} (hv : v < 2 ^ 64) (hx : x < 2 ^ 64) (a n : Int) (w : World), Calls Try.prog 18 #[.int .u64 v, .int .i64 a, .int .i64 n, .int .u64 x] w fun e w' => e = .returned (.int .u64 (wth v a n x)) ∧ ∃ m, w' = w.drewN m) := with_calls
  have I5 := Lib.hid size5
  have EW := Lib.hid (show encW c a b d n = if rightB c a b d n = true then wordF c a b d n else 0 from rfl)
  generalize encW c a b d n = res at *
  go_enter Try.func12, Try.ntmps12
  go_upto_region 1 with (fail)
  obtain ⟨w1, hw1⟩ : ∃ w1, w.alloc (.cells #[.int .u8 c, .int .u8 a, .int .u8 b, .int .u8 d, .int .i16 n] 24) = w1 := ⟨_, rfl⟩
  have A1 : Hid (Below w.heap.size w w1) := by rw [← hw1]; exact (Below.refl _ _).alloc (Nat.le_refl _) _
  have B1 : Hid (Blk w1 w.heap.size [.int .u8 c, .int .u8 a, .int .u8 b, .int .u8 d, .int .i16 n] 24) := by rw [← hw1]; exact Blk.new w _ _
  have z1 : Hid (w.heap.size < w1.heap.size) := by show _ < _; rw [← hw1]; simp
  rw [hw1]
  clear hw1
  go_wp2_with (refine wpList_load_mid rfl 24 (.tmp 1) rfl w.heap.size 0 rfl [.int .u8 c, .int .u8 a, .int .u8 b, .int .u8 d, .int .i16 n] _ (range_all B1.out) Try.underlying24 rfl I5.out ?_)
  refine (HR.out _).mono ?_
  rintro e w2 ⟨rfl, hbe⟩
  have A2 := Lib.hid (A1.out.trans (hbe.mono A1.out.size))
  have B2 := Lib.hid (B1.out.below hbe z1.out)
  have z2 : Hid (w.heap.size < w2.heap.size) := by have := hbe.size; have := z1.out; show _ < _; omega
  clear hbe A1 B1 z1
  cases hr : rightB c a b d n with
  | false =>
    have e0 : res = 0 := by rw [EW.out, hr]; rfl
    subst e0
    go_wp2
    go_ret2
    exact ⟨by rw [hr]; rfl, A2.out⟩
  | true =>
  have hlt := rightB_lt hr
  have HRT := Lib.hid hr
  have EV := Lib.hid (show res = wordN c a b + if fC c then d else uN n by rw [EW.out, if_pos hr]; rfl)
  clear hr
  have c0 := B2.out.cellAt (i := 0) rfl
  go_wp2_with fail
  refine (HW.out (v := 0) (x := c) (by omega) (by omega) 26 6 _).mono ?_
  rintro e w3 ⟨rfl, m, rfl⟩
  rw [w1_eq (by omega)]
  have A3 := Lib.hid (below_drewN A2.out m)
  have B3 := Lib.hid (B2.out.drewN m)
  have z3 : Hid (w.heap.size < (w2.drewN m).heap.size) := z2
  clear A2 B2 z2 c0
  generalize w2.drewN m = w3 at *
  generalize hx1 : c * 67108864 = x1 at *
  have X1 := Lib.hid hx1
  clear hx1
  have c1 := B3.out.cellAt (i := 1) rfl
  go_wp2_with fail
  refine (HW.out (v := x1) (x := a) (by have := X1.out; omega) (by omega) 22 4 _).mono ?_
  rintro e w4 ⟨rfl, m, rfl⟩
  rw [← X1.out, w2_eq (by omega) hlt.2.1]
  have A4 := Lib.hid (below_drewN A3.out m)
  have B4 := Lib.hid (B3.out.drewN m)
  have z4 : Hid (w.heap.size < (w3.drewN m).heap.size) := z3
  clear A3 B3 z3 c1
  generalize w3.drewN m = w4 at *
  generalize hx2 : c * 67108864 + a * 4194304 = x2 at *
  have X2 := Lib.hid hx2
  clear hx2
  have c2 := B4.out.cellAt (i := 2) rfl
  go_wp2_with fail
  refine (HW.out (v := x2) (x := b) (by have := X2.out; omega) (by omega) 18 4 _).mono ?_
  rintro e w5 ⟨rfl, m, rfl⟩
  rw [← X2.out, w3_eq (by omega) hlt.2.1 hlt.2.2.1]
  have A5 := Lib.hid (below_drewN A4.out m)
  have B5 := Lib.hid (B4.out.drewN m)
  have z5 : Hid (w.heap.size < (w4.drewN m).heap.size) := z4
  clear A4 B4 z4 c2
  generalize w4.drewN m = w5 at *
  have N1 : Hid (wordN c a b < 2 ^ 31) := by show _ < _; unfold wordN; omega
  have W4 := Lib.hid (w4_eq (c := c) (a := a) (b := b) (d := d) (by omega) hlt.2.1 hlt.2.2.1 hlt.2.2.2)
  have W5 := Lib.hid (w5_eq (c := c) (a := a) (b := b) (u := uN n) (by omega) hlt.2.1 hlt.2.2.1 (by unfold uN; omega))
  generalize wordN c a b = x3 at *
  have c0 := B5.out.cellAt (i := 0) rfl
  go_wp2_with fail
  refine (HF.out _).mono ?_
  rintro e w6 ⟨rfl, hbe⟩
  have A6 := Lib.hid (A5.out.trans (hbe.mono A5.out.size))
  have B6 := Lib.hid (B5.out.below hbe z5.out)
  clear hbe A5 B5 z5 c0
  have c3 := B6.out.cellAt (i := 3) rfl
  have c4 := B6.out.cellAt (i := 4) rfl
  have hfl := fun w => run_kindC w (fA c) (fB c) (fC c) (fN c)
  cases hfc : fC c with
  | true =>
    rw [hfc] at hfl
    have e1 : res = x3 + d := by rw [EV.out, hfc]; rfl
    subst e1
    go_wp2_with fail
    refine (HW.out (v := x3) (x := d) (by have := N1.out; omega) (by omega) 0 4 _).mono ?_
    rintro e w7 ⟨rfl, m, rfl⟩
    rw [W4.out]
    have hlo : x3 + d < 4294967296 := by have := N1.out; omega
    generalize hyy : x3 + d = y at *
    have HY := Lib.hid hyy
    clear hyy
    have hy : (y : Int) < 4294967296 := by omega
    have hy0 : (0 : Int) ≤ (y : Int) := by omega
    go_wp2
    go_ret2
    exact ⟨by rw [HRT.out, HY.out]; rfl, below_drewN A6.out m⟩
  | false =>
    rw [hfc] at hfl
    have e1 : res = x3 + uN n := by rw [EV.out, hfc]; rfl
    subst e1
    go_wp2_with fail
    rw [wrap_uN n]
    refine (HW.out (v := x3) (x := uN n) (by have := N1.out; omega) (by unfold uN; omega) 0 16 _).mono ?_
    rintro e w7 ⟨rfl, m, rfl⟩
    rw [W5.out]
    have hlo : x3 + uN n < 4294967296 := by have := N1.out; unfold uN; omega
    generalize hyy : x3 + uN n = y at *
    have HY := Lib.hid hyy
    clear hyy
    have hy : (y : Int) < 4294967296 := by omega
    have hy0 : (0 : Int) ≤ (y : Int) := by omega
    go_wp2
    go_ret2
    exact ⟨by rw [HRT.out, HY.out]; rfl, below_drewN A6.out m⟩
end Go.Proofs.Ytbjlldenokdpeaa.Walks
