/- Walks through the functions of the statement, and the statement over them: each contract says what the call answers and that nothing else changes. -/
import Derived.Test.YtjlodddlbgpcdaaDoorProg
import Derived.Test.YtjlodddlbgpcdaaDoorBits
import Derived.Test.YtjlodddlbgpcdaaDoorHeap
import Derived.Test.YtjlodddlbgpcdaaDoorAid
import Derived.Test.YtjlodddlbgpcdaaDoorArr
import Derived.Test.YtjlodddlbgpcdaaDoorEql
import Derived.Test.YtjlodddlbgpcdaaDoorWalkBase
import Derived.Lib.Hide
import Derived.WalkKit
import Derived.WalkSpells
import Derived.WalkLawsBesides
import Derived.Deep.QuietTactic
import Derived.BigQuiet
import Derived.Deep.RegionHeld3
import Derived.Deep.DeepCutAuto
import Derived.Deep.CutBlock
import Derived.Lib.SlBytesConst
import Derived.StillTailTactics
import Derived.RegionTactic
import Derived.Deep.RegionLaw
import Derived.Laws.BytesString
import Derived.Laws.MakeOwn
import Derived.Deep.AppendLies
import Derived.Laws.CopyOwn
import Derived.Maps.AppendAt
import Derived.Deep.Upon
import Derived.Deep.AppendSrc
import Derived.Shelf.Abstract
import Derived.Shelf.Spec.TrailingZeros
namespace Go.Proofs.YtjlodddlbgpcdaaDoor.Walks
set_option linter.unusedVariables false
set_option linter.unusedSimpArgs false
open Go.RowKit Go.Proofs.YtjlodddlbgpcdaaDoor.Bits Go.Proofs.YtjlodddlbgpcdaaDoor.Heap Go.Proofs.YtjlodddlbgpcdaaDoor.Aid Go.Proofs.YtjlodddlbgpcdaaDoor.Arr Go.Proofs.YtjlodddlbgpcdaaDoor.Eql

theorem wth_add (q x a n : Nat) (hx : x < 2 ^ n) (hn : 1 ≤ n) (han : a + n ≤ 64) (hq : q * 2 ^ (a + n) < 2 ^ 64) : wth (q * 2 ^ (a + n)) (a : Int) (n : Int) x = q * 2 ^ (a + n) + x * 2 ^ a := by
  refine Nat.eq_of_testBit_eq fun i => ?_
  rw [testBit_wth hq x (by omega), Int.toNat_natCast]
  have e : q * 2 ^ (a + n) + x * 2 ^ a = 2 ^ a * (2 ^ n * q + x) := by
    rw [Nat.pow_add, Nat.mul_add, Nat.mul_comm (2 ^ a) x, Nat.mul_comm q (2 ^ a * 2 ^ n), Nat.mul_assoc]
  have e2 : q * 2 ^ (a + n) = 2 ^ (a + n) * q := Nat.mul_comm _ _
  rw [e, Nat.testBit_two_pow_mul, Nat.testBit_two_pow_mul_add q hx]
  by_cases hi : i < 64
  · rw [decide_eq_true hi, Bool.true_and]
    by_cases h1 : a ≤ i
    · by_cases h2 : i - a < n
      · rw [if_pos (by omega), decide_eq_true (show i ≥ a from h1), Bool.true_and, if_pos h2]
      · rw [if_neg (by omega), decide_eq_true (show i ≥ a from h1), Bool.true_and, if_neg h2, e2, Nat.testBit_two_pow_mul, decide_eq_true (show i ≥ a + n by omega), Bool.true_and, Nat.sub_sub]
    · rw [if_neg (by omega), decide_eq_false (show ¬ i ≥ a from h1), Bool.false_and, e2, Nat.testBit_two_pow_mul, decide_eq_false (show ¬ i ≥ a + n by omega), Bool.false_and]
  · rw [decide_eq_false hi, Bool.false_and, decide_eq_true (show i ≥ a by omega), Bool.true_and, if_neg (by omega)]
    have h := Nat.testBit_lt_two_pow (Nat.lt_of_lt_of_le hq (Nat.pow_le_pow_right (by omega) (show 64 ≤ i by omega)))
    rw [e2, Nat.testBit_two_pow_mul, decide_eq_true (show i ≥ a + n by omega), Bool.true_and, ← Nat.sub_sub] at h
    exact h.symm
def wordN (c a b : Nat) : Nat := c * 67108864 + a * 4194304 + b * 262144
theorem w1_eq {c : Nat} (hc : c < 64) : wth 0 26 6 c = c * 67108864 := by
  have := wth_add 0 c 26 6 hc (by decide) (by decide) (by decide)
  simpa using this
theorem w2_eq {c a : Nat} (hc : c < 64) (ha : a < 16) : wth (c * 67108864) 22 4 a = c * 67108864 + a * 4194304 := by
  have := wth_add c a 22 4 (by omega) (by omega) (by omega) (by omega)
  simpa using this
theorem w3_eq {c a b : Nat} (hc : c < 64) (ha : a < 16) (hb : b < 16) : wth (c * 67108864 + a * 4194304) 18 4 b = wordN c a b := by
  have := wth_add (c * 16 + a) b 18 4 (by omega) (by omega) (by omega) (by omega)
  have e : (c * 16 + a) * 2 ^ (18 + 4) = c * 67108864 + a * 4194304 := by omega
  rw [e] at this
  exact this
theorem w4_eq {c a b d : Nat} (hc : c < 64) (ha : a < 16) (hb : b < 16) (hd : d < 16) : wth (wordN c a b) 0 4 d = wordN c a b + d := by
  have := wth_add (((c * 16 + a) * 16 + b) * 16384) d 0 4 (by omega) (by omega) (by omega) (by omega)
  have e : (((c * 16 + a) * 16 + b) * 16384) * 2 ^ (0 + 4) = wordN c a b := by unfold wordN; omega
  rw [e] at this
  simpa using this
theorem w5_eq {c a b u : Nat} (hc : c < 64) (ha : a < 16) (hb : b < 16) (hu : u < 65536) : wth (wordN c a b) 0 16 u = wordN c a b + u := by
  have := wth_add (((c * 16 + a) * 16 + b) * 4) u 0 16 (by omega) (by omega) (by omega) (by omega)
  have e : (((c * 16 + a) * 16 + b) * 4) * 2 ^ (0 + 16) = wordN c a b := by unfold wordN; omega
  rw [e] at this
  simpa using this
def uN (n : Int) : Nat := (n % 65536).toNat
theorem wrap_uN (n : Int) : IntKind.u64.wrap (IntKind.u16.wrap n) = ((uN n : Nat) : Int) := by
  simp [IntKind.wrap, IntKind.signed, IntKind.bits, uN]
  omega
def wordF (c a b d : Nat) (n : Int) : Nat := wordN c a b + if fC c then d else uN n
def encW (c a b d : Nat) (n : Int) : Nat := if rightB c a b d n = true then wordF c a b d n else 0
theorem rightB_lt {c a b d : Nat} {n : Int} (h : rightB c a b d n = true) : c < 23 ∧ a < 16 ∧ b < 16 ∧ d < 16 := by
  have h := of_decide_eq_true h
  have h1 := of_decide_eq_true h.2.1
  have h2 := of_decide_eq_true h.2.2.1
  have h3 := of_decide_eq_true h.2.2.2.1
  omega
theorem sizeBool : (Tryd.prog.info? 4).map (·.size) = some 1 := by kernel_rfl
theorem run_kindC (w : World) (a b c d : Bool) : (Instr.field 91 (.agg #[.bool a, .bool b, .bool c, .bool d]) 2).run Tryd.prog w = .ok (.bool c) w :=
  run_field_one (cs := [.bool a, .bool b, .bool c, .bool d]) w Tryd.underlying91 rfl Tryd.underlying4 rfl sizeBool rfl
set_option maxHeartbeats 4000000 in
theorem encode_calls (c a b d : Nat) (n : Int) (hc : c < 256) (ha : a < 256) (hb : b < 256) (hd : d < 256) (hn : -32768 ≤ n ∧ n ≤ 32767) (w : World) :
    Calls Tryd.prog 35 #[.agg #[.int .u8 c, .int .u8 a, .int .u8 b, .int .u8 d, .int .i16 n]] w fun e w' => e = .returned (.tuple #[.int .u32 (encW c a b d n : Nat), .bool (rightB c a b d n)]) ∧ Below w.heap.size w w' := by
  have HR := Lib.hid (right_calls c a b d n (by omega))
  have HF := Lib.hid (fields_calls c (by omega))
  have HW : Hid (∀ {v x : Nat} (hv : v < 2 ^ 64) (hx : x < 2 ^ 64) (a n : Int) (w : World), Calls Tryd.prog 36 #[.int .u64 v, .int .i64 a, .int .i64 n, .int .u64 x] w fun e w' => e = .returned (.int .u64 (wth v a n x)) ∧ ∃ m, w' = w.drewN m) := with_calls
  have I5 := Lib.hid size5
  have EW := Lib.hid (show encW c a b d n = if rightB c a b d n = true then wordF c a b d n else 0 from rfl)
  generalize encW c a b d n = res at *
  go_enter Tryd.func35, Tryd.ntmps35
  go_upto_region 1 with (fail)
  obtain ⟨w1, hw1⟩ : ∃ w1, w.alloc (.cells #[.int .u8 c, .int .u8 a, .int .u8 b, .int .u8 d, .int .i16 n] 74) = w1 := ⟨_, rfl⟩
  have A1 : Hid (Below w.heap.size w w1) := by rw [← hw1]; exact (Below.refl _ _).alloc (Nat.le_refl _) _
  have B1 : Hid (Blk w1 w.heap.size [.int .u8 c, .int .u8 a, .int .u8 b, .int .u8 d, .int .i16 n] 74) := by rw [← hw1]; exact Blk.new w _ _
  have z1 : Hid (w.heap.size < w1.heap.size) := by show _ < _; rw [← hw1]; simp
  rw [hw1]
  clear hw1
  go_wp2_with (refine wpList_load_mid rfl 74 (.tmp 1) rfl w.heap.size 0 rfl [.int .u8 c, .int .u8 a, .int .u8 b, .int .u8 d, .int .i16 n] _ (range_all B1.out) Tryd.underlying74 rfl I5.out ?_)
  refine (HR.out _).mono ?_
  rintro e w2 ⟨rfl, hbe⟩
  have A2 := Lib.hid (A1.out.trans (hbe.mono A1.out.size))
  have B2 := Lib.hid (B1.out.below hbe z1.out)
  have z2 : Hid (w.heap.size < w2.heap.size) := by have := hbe.size; have := z1.out; show _ < _; omega
  clear hbe A1 B1 z1
  cases hr : rightB c a b d n with
  | false =>
    have e0 : res = 0 := by rw [EW.out, hr]; rfl
    subst e0
    go_wp2
    go_ret2
    exact ⟨by rw [hr]; rfl, A2.out⟩
  | true =>
  have hlt := rightB_lt hr
  have HRT := Lib.hid hr
  have EV := Lib.hid (show res = wordN c a b + if fC c then d else uN n by rw [EW.out, if_pos hr]; rfl)
  clear hr
  have c0 := B2.out.cellAt (i := 0) rfl
  go_wp2_with fail
  refine (HW.out (v := 0) (x := c) (by omega) (by omega) 26 6 _).mono ?_
  rintro e w3 ⟨rfl, m, rfl⟩
  rw [w1_eq (by omega)]
  have A3 := Lib.hid (below_drewN A2.out m)
  have B3 := Lib.hid (B2.out.drewN m)
  have z3 : Hid (w.heap.size < (w2.drewN m).heap.size) := z2
  clear A2 B2 z2 c0
  generalize w2.drewN m = w3 at *
  generalize hx1 : c * 67108864 = x1 at *
  have X1 := Lib.hid hx1
  clear hx1
  have c1 := B3.out.cellAt (i := 1) rfl
  go_wp2_with fail
  refine (HW.out (v := x1) (x := a) (by have := X1.out; omega) (by omega) 22 4 _).mono ?_
  rintro e w4 ⟨rfl, m, rfl⟩
  rw [← X1.out, w2_eq (by omega) hlt.2.1]
  have A4 := Lib.hid (below_drewN A3.out m)
  have B4 := Lib.hid (B3.out.drewN m)
  have z4 : Hid (w.heap.size < (w3.drewN m).heap.size) := z3
  clear A3 B3 z3 c1
  generalize w3.drewN m = w4 at *
  generalize hx2 : c * 67108864 + a * 4194304 = x2 at *
  have X2 := Lib.hid hx2
  clear hx2
  have c2 := B4.out.cellAt (i := 2) rfl
  go_wp2_with fail
  refine (HW.out (v := x2) (x := b) (by have := X2.out; omega) (by omega) 18 4 _).mono ?_
  rintro e w5 ⟨rfl, m, rfl⟩
  rw [← X2.out, w3_eq (by omega) hlt.2.1 hlt.2.2.1]
  have A5 := Lib.hid (below_drewN A4.out m)
  have B5 := Lib.hid (B4.out.drewN m)
  have z5 : Hid (w.heap.size < (w4.drewN m).heap.size) := z4
  clear A4 B4 z4 c2
  generalize w4.drewN m = w5 at *
  have N1 : Hid (wordN c a b < 2 ^ 31) := by show _ < _; unfold wordN; omega
  have W4 := Lib.hid (w4_eq (c := c) (a := a) (b := b) (d := d) (by omega) hlt.2.1 hlt.2.2.1 hlt.2.2.2)
  have W5 := Lib.hid (w5_eq (c := c) (a := a) (b := b) (u := uN n) (by omega) hlt.2.1 hlt.2.2.1 (by unfold uN; omega))
  generalize wordN c a b = x3 at *
  have c0 := B5.out.cellAt (i := 0) rfl
  go_wp2_with fail
  refine (HF.out _).mono ?_
  rintro e w6 ⟨rfl, hbe⟩
  have A6 := Lib.hid (A5.out.trans (hbe.mono A5.out.size))
  have B6 := Lib.hid (B5.out.below hbe z5.out)
  clear hbe A5 B5 z5 c0
  have c3 := B6.out.cellAt (i := 3) rfl
  have c4 := B6.out.cellAt (i := 4) rfl
  have hfl := fun w => run_kindC w (fA c) (fB c) (fC c) (fN c)
  cases hfc : fC c with
  | true =>
    rw [hfc] at hfl
    have e1 : res = x3 + d := by rw [EV.out, hfc]; rfl
    subst e1
    go_wp2_with fail
    refine (HW.out (v := x3) (x := d) (by have := N1.out; omega) (by omega) 0 4 _).mono ?_
    rintro e w7 ⟨rfl, m, rfl⟩
    rw [W4.out]
    have hlo : x3 + d < 4294967296 := by have := N1.out; omega
    generalize hyy : x3 + d = y at *
    have HY := Lib.hid hyy
    clear hyy
    have hy : (y : Int) < 4294967296 := by omega
    have hy0 : (0 : Int) ≤ (y : Int) := by omega
    go_wp2
    go_ret2
    exact ⟨by rw [HRT.out, HY.out]; rfl, below_drewN A6.out m⟩
  | false =>
    rw [hfc] at hfl
    have e1 : res = x3 + uN n := by rw [EV.out, hfc]; rfl
    subst e1
    go_wp2_with fail
    rw [wrap_uN n]
    refine (HW.out (v := x3) (x := uN n) (by have := N1.out; omega) (by unfold uN; omega) 0 16 _).mono ?_
    rintro e w7 ⟨rfl, m, rfl⟩
    rw [W5.out]
    have hlo : x3 + uN n < 4294967296 := by have := N1.out; unfold uN; omega
    generalize hyy : x3 + uN n = y at *
    have HY := Lib.hid hyy
    clear hyy
    have hy : (y : Int) < 4294967296 := by omega
    have hy0 : (0 : Int) ≤ (y : Int) := by omega
    go_wp2
    go_ret2
    exact ⟨by rw [HRT.out, HY.out]; rfl, below_drewN A6.out m⟩
def dC (v : Nat) : Nat := v / 2 ^ 26 % 2 ^ 6
def dA (v : Nat) : Nat := v / 2 ^ 22 % 2 ^ 4
def dB (v : Nat) : Nat := v / 2 ^ 18 % 2 ^ 4
def dD (v : Nat) : Nat := if fC (dC v : Nat) then v / 2 ^ 0 % 2 ^ 4 else 0
def dN (v : Nat) : Int := if fC (dC v : Nat) then 0 else IntKind.i16.wrap ((v / 2 ^ 0 % 2 ^ 16 : Nat) : Int)
def decOk (v : Nat) : Bool := rightB (dC v : Nat) (dA v : Nat) (dB v : Nat) (dD v : Nat) (dN v) && decide (encW (dC v) (dA v) (dB v) (dD v) (dN v) = v)
def decCells (v : Nat) : List Value := if decOk v then [.int .u8 (dC v : Nat), .int .u8 (dA v : Nat), .int .u8 (dB v : Nat), .int .u8 (dD v : Nat), .int .i16 (dN v)] else [.int .u8 0, .int .u8 0, .int .u8 0, .int .u8 0, .int .i16 0]
theorem fld_26 (v : Nat) : fld v 26 6 = dC v := rfl
theorem fld_22 (v : Nat) : fld v 22 4 = dA v := rfl
theorem fld_18 (v : Nat) : fld v 18 4 = dB v := rfl
theorem fld_4 (v : Nat) : fld v 0 4 = v / 2 ^ 0 % 2 ^ 4 := rfl
theorem fld_16 (v : Nat) : fld v 0 16 = v / 2 ^ 0 % 2 ^ 16 := rfl
theorem wrap16_bounds (x : Int) : -32768 ≤ IntKind.i16.wrap x ∧ IntKind.i16.wrap x ≤ 32767 := by
  simp [IntKind.wrap, IntKind.signed, IntKind.bits]
  omega
set_option maxHeartbeats 4000000 in
theorem decode_calls (v : Nat) (hv : v < 2 ^ 32) (w : World) :
    Calls Tryd.prog 23 #[.int .u32 v] w fun e w' => e = .returned (.tuple #[.agg (decCells v).toArray, .bool (decOk v)]) ∧ Below w.heap.size w w' := by
  have HL : Hid (∀ (a n : Int) (w : World), Calls Tryd.prog 33 #[.int .u64 v, .int .i64 a, .int .i64 n] w fun e w' => e = .returned (.int .u64 (fld v a n)) ∧ w = w') := fun a n w => field_calls (by omega) a n w
  have hv0 : 0 ≤ (v : Int) := by omega
  have hv1 : (v : Int) < 4294967296 := by omega
  have I5 := Lib.hid size5
  have KC := Lib.hid run_kindC
  have DO := Lib.hid (show decOk v = (rightB (dC v : Nat) (dA v : Nat) (dB v : Nat) (dD v : Nat) (dN v) && decide (encW (dC v) (dA v) (dB v) (dD v) (dN v) = v)) from rfl)
  have DL := Lib.hid (show decCells v = if decOk v then [.int .u8 (dC v : Nat), .int .u8 (dA v : Nat), .int .u8 (dB v : Nat), .int .u8 (dD v : Nat), .int .i16 (dN v)] else [.int .u8 0, .int .u8 0, .int .u8 0, .int .u8 0, .int .i16 0] from rfl)
  have DD := Lib.hid (show dD v = if fC (dC v : Nat) then v / 2 ^ 0 % 2 ^ 4 else 0 from rfl)
  have DN := Lib.hid (show dN v = if fC (dC v : Nat) then 0 else IntKind.i16.wrap ((v / 2 ^ 0 % 2 ^ 16 : Nat) : Int) from rfl)
  have F1 := Lib.hid (fld_26 v)
  have F2 := Lib.hid (fld_22 v)
  have F3 := Lib.hid (fld_18 v)
  have F4 := Lib.hid (fld_4 v)
  have F5 := Lib.hid (fld_16 v)
  have hc : dC v < 64 := by unfold dC; omega
  have ha : dA v < 16 := by unfold dA; omega
  have hb : dB v < 16 := by unfold dB; omega
  have hx : v / 2 ^ 0 % 2 ^ 4 < 16 := by omega
  have hy : v / 2 ^ 0 % 2 ^ 16 < 65536 := by omega
  generalize decOk v = ok at *
  generalize decCells v = cs at *
  generalize dC v = c at *
  generalize dA v = a at *
  generalize dB v = b at *
  generalize dD v = d at *
  generalize dN v = n at *
  generalize v / 2 ^ 0 % 2 ^ 4 = x4 at *
  generalize v / 2 ^ 0 % 2 ^ 16 = x16 at *
  have hci : (c : Int) < 256 := by omega
  have hai : (a : Int) < 256 := by omega
  have hbi : (b : Int) < 256 := by omega
  have hc0 : 0 ≤ (c : Int) := by omega
  have ha0 : 0 ≤ (a : Int) := by omega
  have hb0 : 0 ≤ (b : Int) := by omega
  go_enter Tryd.func23, Tryd.ntmps23
  go_upto_region 2 with (fail)
  have V1 : Hid (Inv w [.int .u8 0, .int .u8 0, .int .u8 0, .int .u8 0, .int .i16 0] 74 (w.alloc (.cells #[.int .u8 0, .int .u8 0, .int .u8 0, .int .u8 0, .int .i16 0] 74))) := Inv.new w _ _
  generalize w.alloc (.cells #[.int .u8 0, .int .u8 0, .int .u8 0, .int .u8 0, .int .i16 0] 74) = w1 at *
  go_wp2_with fail
  refine (HL.out 26 6 _).mono ?_
  rintro e w2 ⟨rfl, rfl⟩
  rw [F1.out]
  go_wp2_with fail
  refine (HL.out 22 4 _).mono ?_
  rintro e w2 ⟨rfl, rfl⟩
  rw [F2.out]
  go_wp2_with fail
  refine (HL.out 18 4 _).mono ?_
  rintro e w2 ⟨rfl, rfl⟩
  rw [F3.out]
  go_upto_region 3 with (fail)
  have U2 : Hid (Inv w1 [.int .u8 c, .int .u8 a, .int .u8 b, .int .u8 0, .int .i16 0] 74 (w1.alloc (.cells #[.int .u8 c, .int .u8 a, .int .u8 b, .int .u8 0, .int .i16 0] 74))) := Inv.new w1 _ _
  generalize w1.alloc (.cells #[.int .u8 c, .int .u8 a, .int .u8 b, .int .u8 0, .int .i16 0] 74) = w2 at *
  have c0 := U2.out.k.cellAt (i := 0) rfl
  go_wp2_with fail
  refine (fields_calls c (by omega) _).mono ?_
  rintro e w3 ⟨rfl, hbe⟩
  have U3 := Lib.hid (U2.out.step hbe)
  clear hbe U2 c0
  have hfl := fun w => KC.out w (fA c) (fB c) (fC c) (fN c)
  cases hfc : fC c with
  | true =>
    rw [hfc] at hfl DD DN
    have hd4 : d = x4 := by rw [DD.out]; rfl
    have hn4 : n = 0 := by rw [DN.out]; rfl
    subst hd4
    subst hn4
    have hn : (-32768 : Int) ≤ 0 ∧ (0 : Int) ≤ 32767 := by omega
    have hxi : (d : Int) < 256 := by omega
    have hx0 : 0 ≤ (d : Int) := by omega
    go_wp2_with fail
    refine (HL.out 0 4 _).mono ?_
    rintro e w2 ⟨rfl, rfl⟩
    rw [F4.out]
    have c3 := U3.out.k.cellAt (i := 3) rfl
    have f3 := U3.out.k.unfrozen 3
    go_upto_region 6 with (fail)
    have U4 : Hid (Inv w1 [.int .u8 c, .int .u8 a, .int .u8 b, .int .u8 d, .int .i16 0] 74 (w3.setCell ⟨w1.heap.size, 3, none⟩ (.int .u8 d))) := U3.out.set 3 _
    clear U3 c3 f3 DD DN F4 F5 F1 F2 F3
    generalize w3.setCell ⟨w1.heap.size, 3, none⟩ (.int .u8 d) = w4 at *
    go_wp2_with (refine wpList_load_mid rfl 74 (.tmp 5) rfl w1.heap.size 0 rfl [.int .u8 c, .int .u8 a, .int .u8 b, .int .u8 d, .int .i16 0] _ (range_all U4.out.k) Tryd.underlying74 rfl (by simpa using I5.out) ?_)
    refine (encode_calls c a b d 0 (by omega) (by omega) (by omega) (by omega) hn _).mono ?_
    rintro e w5 ⟨rfl, hbe⟩
    have U5 := Lib.hid (U4.out.step hbe)
    have V5 := Lib.hid (V1.out.step U5.out.b)
    clear hbe U4
    generalize encW c a b d 0 = ev at *
    generalize rightB c a b d 0 = rb at *
    cases rb with
    | false =>
      have DO2 : ok = false := by rw [DO.out]; rfl
      go_wp2_with (refine wpList_store_mid rfl 74 (.tmp 2) (.tmp 44) rfl w.heap.size 0 #[.int .u8 0, .int .u8 0, .int .u8 0, .int .u8 0, .int .i16 0] rfl rfl (there_of_blk V5.out.k ?s1) ?s2 ?s3 ?_)
      case s1 => simp
      case s2 => simpa using I5.out
      case s3 => simp [Value.oneCell']
      have hbz := V5.out.setAll [.int .u8 0, .int .u8 0, .int .u8 0, .int .u8 0, .int .i16 0] rfl
      refine bodyPost_ret (v := .tuple #[.agg #[.int .u8 0, .int .u8 0, .int .u8 0, .int .u8 0, .int .i16 0], .bool false]) (results_ct Tryd.results23 _ _ w.heap.size [.int .u8 0, .int .u8 0, .int .u8 0, .int .u8 0, .int .i16 0] _ rfl (range_all hbz.k) Tryd.underlying74 rfl (by simpa using I5.out)) rfl ⟨by rw [DL.out, DO2]; rfl, hbz.b⟩
    | true =>
      by_cases hev : ev = v
      · have DO2 : ok = true := by rw [DO.out, hev]; simp
        have hd : ((ev : Int) != (v : Int)) = false := by simp [hev]
        go_wp2_with (first | refine wpList_load_mid rfl 74 (.tmp 5) rfl w1.heap.size 0 rfl [.int .u8 c, .int .u8 a, .int .u8 b, .int .u8 d, .int .i16 0] _ (range_all U5.out.k) Tryd.underlying74 rfl (by simpa using I5.out) ?_ | refine wpList_store_mid rfl 74 (.tmp 2) (.tmp 45) rfl w.heap.size 0 #[.int .u8 c, .int .u8 a, .int .u8 b, .int .u8 d, .int .i16 0] rfl rfl (there_of_blk V5.out.k ?s1) ?s2 ?s3 ?_)
        case s1 => simp
        case s2 => simpa using I5.out
        case s3 => simp [Value.oneCell']
        have hbz := V5.out.setAll [.int .u8 c, .int .u8 a, .int .u8 b, .int .u8 d, .int .i16 0] rfl
        refine bodyPost_ret (v := .tuple #[.agg #[.int .u8 c, .int .u8 a, .int .u8 b, .int .u8 d, .int .i16 0], .bool true]) (results_ct Tryd.results23 _ _ w.heap.size [.int .u8 c, .int .u8 a, .int .u8 b, .int .u8 d, .int .i16 0] _ rfl (range_all hbz.k) Tryd.underlying74 rfl (by simpa using I5.out)) rfl ⟨by rw [DL.out, DO2]; rfl, hbz.b⟩
      · have DO2 : ok = false := by rw [DO.out]; simp [hev]
        have hd : ((ev : Int) != (v : Int)) = true := by simp; omega
        go_wp2_with (refine wpList_store_mid rfl 74 (.tmp 2) (.tmp 44) rfl w.heap.size 0 #[.int .u8 0, .int .u8 0, .int .u8 0, .int .u8 0, .int .i16 0] rfl rfl (there_of_blk V5.out.k ?s1) ?s2 ?s3 ?_)
        case s1 => simp
        case s2 => simpa using I5.out
        case s3 => simp [Value.oneCell']
        have hbz := V5.out.setAll [.int .u8 0, .int .u8 0, .int .u8 0, .int .u8 0, .int .i16 0] rfl
        refine bodyPost_ret (v := .tuple #[.agg #[.int .u8 0, .int .u8 0, .int .u8 0, .int .u8 0, .int .i16 0], .bool false]) (results_ct Tryd.results23 _ _ w.heap.size [.int .u8 0, .int .u8 0, .int .u8 0, .int .u8 0, .int .i16 0] _ rfl (range_all hbz.k) Tryd.underlying74 rfl (by simpa using I5.out)) rfl ⟨by rw [DL.out, DO2]; rfl, hbz.b⟩
  | false =>
    rw [hfc] at hfl DD DN
    have hd4 : d = 0 := by rw [DD.out]; rfl
    have hn4 : n = IntKind.i16.wrap x16 := by rw [DN.out]; rfl
    have hn : -32768 ≤ n ∧ n ≤ 32767 := by rw [hn4]; exact wrap16_bounds _
    subst hd4
    have hxi : (x16 : Int) < 65536 := by omega
    have hx0 : 0 ≤ (x16 : Int) := by omega
    have HN4 := Lib.hid hn4
    clear hn4
    go_wp2_with fail
    refine (HL.out 0 16 _).mono ?_
    rintro e w2 ⟨rfl, rfl⟩
    rw [F5.out]
    have c4 := U3.out.k.cellAt (i := 4) rfl
    have f4 := U3.out.k.unfrozen 4
    go_upto_region 6 with (fail)
    rw [← HN4.out]
    have U4 : Hid (Inv w1 [.int .u8 c, .int .u8 a, .int .u8 b, .int .u8 0, .int .i16 n] 74 (w3.setCell ⟨w1.heap.size, 4, none⟩ (.int .i16 n))) := U3.out.set 4 _
    clear U3 c4 f4 DD DN F4 F5 F1 F2 F3 HN4
    generalize w3.setCell ⟨w1.heap.size, 4, none⟩ (.int .i16 n) = w4 at *
    go_wp2_with (refine wpList_load_mid rfl 74 (.tmp 5) rfl w1.heap.size 0 rfl [.int .u8 c, .int .u8 a, .int .u8 b, .int .u8 0, .int .i16 n] _ (range_all U4.out.k) Tryd.underlying74 rfl (by simpa using I5.out) ?_)
    refine (encode_calls c a b 0 n (by omega) (by omega) (by omega) (by omega) hn _).mono ?_
    rintro e w5 ⟨rfl, hbe⟩
    have U5 := Lib.hid (U4.out.step hbe)
    have V5 := Lib.hid (V1.out.step U5.out.b)
    clear hbe U4
    generalize encW c a b 0 n = ev at *
    generalize rightB c a b 0 n = rb at *
    cases rb with
    | false =>
      have DO2 : ok = false := by rw [DO.out]; rfl
      go_wp2_with (refine wpList_store_mid rfl 74 (.tmp 2) (.tmp 44) rfl w.heap.size 0 #[.int .u8 0, .int .u8 0, .int .u8 0, .int .u8 0, .int .i16 0] rfl rfl (there_of_blk V5.out.k ?s1) ?s2 ?s3 ?_)
      case s1 => simp
      case s2 => simpa using I5.out
      case s3 => simp [Value.oneCell']
      have hbz := V5.out.setAll [.int .u8 0, .int .u8 0, .int .u8 0, .int .u8 0, .int .i16 0] rfl
      refine bodyPost_ret (v := .tuple #[.agg #[.int .u8 0, .int .u8 0, .int .u8 0, .int .u8 0, .int .i16 0], .bool false]) (results_ct Tryd.results23 _ _ w.heap.size [.int .u8 0, .int .u8 0, .int .u8 0, .int .u8 0, .int .i16 0] _ rfl (range_all hbz.k) Tryd.underlying74 rfl (by simpa using I5.out)) rfl ⟨by rw [DL.out, DO2]; rfl, hbz.b⟩
    | true =>
      by_cases hev : ev = v
      · have DO2 : ok = true := by rw [DO.out, hev]; simp
        have hd : ((ev : Int) != (v : Int)) = false := by simp [hev]
        go_wp2_with (first | refine wpList_load_mid rfl 74 (.tmp 5) rfl w1.heap.size 0 rfl [.int .u8 c, .int .u8 a, .int .u8 b, .int .u8 0, .int .i16 n] _ (range_all U5.out.k) Tryd.underlying74 rfl (by simpa using I5.out) ?_ | refine wpList_store_mid rfl 74 (.tmp 2) (.tmp 45) rfl w.heap.size 0 #[.int .u8 c, .int .u8 a, .int .u8 b, .int .u8 0, .int .i16 n] rfl rfl (there_of_blk V5.out.k ?s1) ?s2 ?s3 ?_)
        case s1 => simp
        case s2 => simpa using I5.out
        case s3 => simp [Value.oneCell']
        have hbz := V5.out.setAll [.int .u8 c, .int .u8 a, .int .u8 b, .int .u8 0, .int .i16 n] rfl
        refine bodyPost_ret (v := .tuple #[.agg #[.int .u8 c, .int .u8 a, .int .u8 b, .int .u8 0, .int .i16 n], .bool true]) (results_ct Tryd.results23 _ _ w.heap.size [.int .u8 c, .int .u8 a, .int .u8 b, .int .u8 0, .int .i16 n] _ rfl (range_all hbz.k) Tryd.underlying74 rfl (by simpa using I5.out)) rfl ⟨by rw [DL.out, DO2]; rfl, hbz.b⟩
      · have DO2 : ok = false := by rw [DO.out]; simp [hev]
        have hd : ((ev : Int) != (v : Int)) = true := by simp; omega
        go_wp2_with (refine wpList_store_mid rfl 74 (.tmp 2) (.tmp 44) rfl w.heap.size 0 #[.int .u8 0, .int .u8 0, .int .u8 0, .int .u8 0, .int .i16 0] rfl rfl (there_of_blk V5.out.k ?s1) ?s2 ?s3 ?_)
        case s1 => simp
        case s2 => simpa using I5.out
        case s3 => simp [Value.oneCell']
        have hbz := V5.out.setAll [.int .u8 0, .int .u8 0, .int .u8 0, .int .u8 0, .int .i16 0] rfl
        refine bodyPost_ret (v := .tuple #[.agg #[.int .u8 0, .int .u8 0, .int .u8 0, .int .u8 0, .int .i16 0], .bool false]) (results_ct Tryd.results23 _ _ w.heap.size [.int .u8 0, .int .u8 0, .int .u8 0, .int .u8 0, .int .i16 0] _ rfl (range_all hbz.k) Tryd.underlying74 rfl (by simpa using I5.out)) rfl ⟨by rw [DL.out, DO2]; rfl, hbz.b⟩
end Go.Proofs.YtjlodddlbgpcdaaDoor.Walks
