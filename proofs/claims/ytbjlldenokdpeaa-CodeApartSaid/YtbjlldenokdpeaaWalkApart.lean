/- Walks through the functions of the statement, and the statement over them: each contract says what the call answers and that nothing else changes. -/
import Derived.Test.YtbjlldenokdpeaaProg
import Derived.Test.YtbjlldenokdpeaaBits
import Derived.Test.YtbjlldenokdpeaaHeap
import Derived.Test.YtbjlldenokdpeaaAid
import Derived.Lib.Hide
import Derived.Test.YtbjlldenokdpeaaEql
import Derived.Test.YtbjlldenokdpeaaArr
import Derived.Test.YtbjlldenokdpeaaWalkPlain
import Derived.WalkKit
import Derived.WalkSpells
import Derived.WalkLawsBesides
import Derived.Deep.QuietTactic
import Derived.BigQuiet
import Derived.Deep.RegionHeld3
import Derived.Deep.DeepCutAuto
import Derived.Deep.CutBlock
import Derived.Lib.SlBytesConst
namespace Go.Proofs.Ytbjlldenokdpeaa.Walks
set_option linter.unusedVariables false
set_option linter.unusedSimpArgs false
open Go.RowKit Go.Proofs.Ytbjlldenokdpeaa.Bits Go.Proofs.Ytbjlldenokdpeaa.Heap Go.Proofs.Ytbjlldenokdpeaa.Aid Go.Proofs.Ytbjlldenokdpeaa.Arr Go.Proofs.Ytbjlldenokdpeaa.Eql

set_option maxHeartbeats 4000000 in
theorem apart_walk (c0 c1 : List Value) (a2 : Bool) (w : World) (f0 : Fits w (.seq (.int .u8) (.seq (.int .u8) (.seq (.int .u8) (.seq (.int .u8) (.seq (.int .i16) .nil))))) c0) (f1 : Fits w (.seq (.int .u8) (.seq (.int .u8) (.seq (.int .u8) (.seq (.int .u8) (.seq (.int .i16) .nil))))) c1) :
    Calls Try.prog 4 #[.agg c0.toArray, .agg c1.toArray, .bool a2] w fun e w' => e = .returned (.bool true) ∧ Below w.heap.size w w' := by
  obtain ⟨c, a, b, d, n, rfl, hc, ha, hb, hd, hn⟩ := fits_op f0
  obtain ⟨c', a', b', d', n', rfl, hc', ha', hb', hd', hn'⟩ := fits_op f1
  clear f0 f1
  have HX := Lib.hid (near_calls c (c % 23) a b d n rfl)
  have HY := Lib.hid (near_calls c' (c' % 23) a' b' d' n' rfl)
  have RX := near_right (c % 23) a b d n (by omega)
  have RY := near_right (c' % 23) a' b' d' n' (by omega)
  have BX := nearN_bounds (c % 23) hn
  have BY := nearN_bounds (c' % 23) hn'
  have hc1 : c % 23 < 23 := by omega
  have hc1' : c' % 23 < 23 := by omega
  have hva := pickIf_lt (fA (c % 23 : Nat)) a
  have hvb := pickIf_lt (fB (c % 23 : Nat)) b
  have hvd := pickIf_lt (fC (c % 23 : Nat)) d
  have hva' := pickIf_lt (fA (c' % 23 : Nat)) a'
  have hvb' := pickIf_lt (fB (c' % 23 : Nat)) b'
  have hvd' := pickIf_lt (fC (c' % 23 : Nat)) d'
  generalize nearN (c % 23) n = xn at *
  generalize nearN (c' % 23) n' = yn at *
  generalize pickIf (fA (c % 23 : Nat)) a = xa at *
  generalize pickIf (fB (c % 23 : Nat)) b = xb at *
  generalize pickIf (fC (c % 23 : Nat)) d = xd at *
  generalize pickIf (fA (c' % 23 : Nat)) a' = ya at *
  generalize pickIf (fB (c' % 23 : Nat)) b' = yb at *
  generalize pickIf (fC (c' % 23 : Nat)) d' = yd at *
  generalize c % 23 = xc at *
  generalize c' % 23 = yc at *
  have I5 := Lib.hid size5
  go_enter Try.func4, Try.ntmps4
  go_upto_region 1 with (fail)
  have V1 : Hid (Inv w [.int .u8 c, .int .u8 a, .int .u8 b, .int .u8 d, .int .i16 n] 24 (w.alloc (.cells #[.int .u8 c, .int .u8 a, .int .u8 b, .int .u8 d, .int .i16 n] 24))) := Inv.new w _ _
  have z1 : (w.alloc (.cells #[.int .u8 c, .int .u8 a, .int .u8 b, .int .u8 d, .int .i16 n] 24)).heap.size = w.heap.size + 1 := by simp
  generalize w.alloc (.cells #[.int .u8 c, .int .u8 a, .int .u8 b, .int .u8 d, .int .i16 n] 24) = w1 at *
  rw [← z1]
  clear z1
  have U2 : Hid (Inv w1 [.int .u8 c', .int .u8 a', .int .u8 b', .int .u8 d', .int .i16 n'] 24 (w1.alloc (.cells #[.int .u8 c', .int .u8 a', .int .u8 b', .int .u8 d', .int .i16 n'] 24))) := Inv.new w1 _ _
  generalize w1.alloc (.cells #[.int .u8 c', .int .u8 a', .int .u8 b', .int .u8 d', .int .i16 n'] 24) = w2 at *
  have V2 := Lib.hid (V1.out.step U2.out.b)
  go_wp2_with (refine wpList_load_mid rfl 24 (.tmp 3) rfl w.heap.size 0 rfl [.int .u8 c, .int .u8 a, .int .u8 b, .int .u8 d, .int .i16 n] _ (range_all V2.out.k) Try.underlying24 rfl (by simpa using I5.out) ?_)
  refine (HX.out _).mono ?_
  rintro e w3 ⟨rfl, hbe⟩
  have U3 := Lib.hid (U2.out.step hbe)
  clear hbe U2 V2
  go_upto_region 2 with (fail)
  have T4 : Hid (Inv w3 [.int .u8 xc, .int .u8 xa, .int .u8 xb, .int .u8 xd, .int .i16 xn] 24 (w3.alloc (.cells #[.int .u8 xc, .int .u8 xa, .int .u8 xb, .int .u8 xd, .int .i16 xn] 24))) := Inv.new w3 _ _
  generalize w3.alloc (.cells #[.int .u8 xc, .int .u8 xa, .int .u8 xb, .int .u8 xd, .int .i16 xn] 24) = w4 at *
  have U4 := Lib.hid (U3.out.step T4.out.b)
  go_wp2_with (refine wpList_load_mid rfl 24 (.tmp 4) rfl w1.heap.size 0 rfl [.int .u8 c', .int .u8 a', .int .u8 b', .int .u8 d', .int .i16 n'] _ (range_all U4.out.k) Try.underlying24 rfl (by simpa using I5.out) ?_)
  refine (HY.out _).mono ?_
  rintro e w5 ⟨rfl, hbe⟩
  have T5 := Lib.hid (T4.out.step hbe)
  clear hbe T4 U4
  go_upto_region 3 with (fail)
  have S6 : Hid (Inv w5 [.int .u8 yc, .int .u8 ya, .int .u8 yb, .int .u8 yd, .int .i16 yn] 24 (w5.alloc (.cells #[.int .u8 yc, .int .u8 ya, .int .u8 yb, .int .u8 yd, .int .i16 yn] 24))) := Inv.new w5 _ _
  generalize w5.alloc (.cells #[.int .u8 yc, .int .u8 ya, .int .u8 yb, .int .u8 yd, .int .i16 yn] 24) = w6 at *
  cases a2 with
  | true =>
    have T6 := Lib.hid (T5.out.step S6.out.b)
    have hbz := Lib.hid (S6.out.setAll [.int .u8 xc, .int .u8 xa, .int .u8 xb, .int .u8 xd, .int .i16 xn] rfl)
    go_upto_region 5 with (first | refine wpList_load_mid rfl 24 (.tmp 7) rfl w3.heap.size 0 rfl [.int .u8 xc, .int .u8 xa, .int .u8 xb, .int .u8 xd, .int .i16 xn] _ (range_all T6.out.k) Try.underlying24 rfl (by simpa using I5.out) ?_ | refine wpList_store_mid rfl 24 (.tmp 8) (.tmp 18) rfl w5.heap.size 0 #[.int .u8 xc, .int .u8 xa, .int .u8 xb, .int .u8 xd, .int .i16 xn] rfl rfl (there_of_blk S6.out.k ?s1) ?s2 ?s3 ?_)
    case s1 => simp
    case s2 => simpa using I5.out
    case s3 => simp [Value.oneCell']
    generalize w6.setCells w5.heap.size 0 _ = w7 at *
    clear S6 T6
    have S6 := hbz
    clear hbz
    have T7 := Lib.hid (T5.out.step S6.out.b)
    go_wp2_with (refine wpList_load_mid rfl 24 (.tmp 7) rfl w3.heap.size 0 rfl [.int .u8 xc, .int .u8 xa, .int .u8 xb, .int .u8 xd, .int .i16 xn] _ (range_all T7.out.k) Try.underlying24 rfl (by simpa using I5.out) ?_)
    refine (encode_calls xc xa xb xd xn (by omega) (by omega) (by omega) (by omega) BX _).mono ?_
    rintro e w8 ⟨rfl, hbe⟩
    have S8 := Lib.hid (S6.out.step hbe)
    clear hbe S6 T7
    go_wp2_with (refine wpList_load_mid rfl 24 (.tmp 8) rfl w5.heap.size 0 rfl [.int .u8 xc, .int .u8 xa, .int .u8 xb, .int .u8 xd, .int .i16 xn] _ (range_all S8.out.k) Try.underlying24 rfl (by simpa using I5.out) ?_)
    refine (encode_calls xc xa xb xd xn (by omega) (by omega) (by omega) (by omega) BX _).mono ?_
    rintro e w9 ⟨rfl, hbe⟩
    have S9 := Lib.hid (S8.out.step hbe)
    clear hbe S8
    go_wp2_with fail
    refine (awake_calls _).mono ?_
    rintro e w10 ⟨rfl, hbe⟩
    have S10 := Lib.hid (S9.out.step hbe)
    have T10 := Lib.hid (T5.out.step S10.out.b)
    have A10 := Lib.hid (V1.out.step (U3.out.step T10.out.b).b).b
    clear hbe S9
    obtain ⟨ee, hE, _, hI⟩ := eql_op (c := xc) (a := xa) (b := xb) (d := xd) (n := xn) (c' := xc) (a' := xa) (b' := xb) (d' := xd) (n' := xn) (by omega) (by omega) (by omega) (by omega) BX (by omega) (by omega) (by omega) (by omega) BX
    have HEQ : Hid ((((encW xc xa xb xd xn : Nat) : Int) == ((encW xc xa xb xd xn : Nat) : Int)) = ee) := by
      show _ = _
      rw [Bool.eq_iff_iff, hI, beq_iff_eq]
      constructor
      · exact fun _ => ⟨rfl, rfl, rfl, rfl, rfl⟩
      · first | (intro _; rfl) | (rintro ⟨h1, h2, h3, h4, h5⟩; rw [h1, h2, h3, h4, h5])
    clear hI
    generalize ((encW xc xa xb xd xn : Nat) : Int) = e2 at *
    generalize ((encW xc xa xb xd xn : Nat) : Int) = e1 at *
    go_wp2_with (first | refine wpList_load_w rfl 24 (.tmp 7) rfl w3.heap.size 0 rfl [.int .u8 xc, .int .u8 xa, .int .u8 xb, .int .u8 xd, .int .i16 xn] _ (range_all T10.out.k) Try.underlying24 rfl (by simpa using I5.out) ?_ | refine wpList_load_w rfl 24 (.tmp 8) rfl w5.heap.size 0 rfl [.int .u8 xc, .int .u8 xa, .int .u8 xb, .int .u8 xd, .int .i16 xn] _ (range_all S10.out.k) Try.underlying24 rfl (by simpa using I5.out) ?_)
    go_ret
    exact ⟨ret_bool (by first | (rw [HEQ.out]; simp; done) | (simp [HEQ.out]; done) | (have := HEQ.out; simp_all)), A10.out⟩
  | false =>
    go_upto_region 5 with (fail)
    have T7 := Lib.hid (T5.out.step S6.out.b)
    go_wp2_with (refine wpList_load_mid rfl 24 (.tmp 7) rfl w3.heap.size 0 rfl [.int .u8 xc, .int .u8 xa, .int .u8 xb, .int .u8 xd, .int .i16 xn] _ (range_all T7.out.k) Try.underlying24 rfl (by simpa using I5.out) ?_)
    refine (encode_calls xc xa xb xd xn (by omega) (by omega) (by omega) (by omega) BX _).mono ?_
    rintro e w8 ⟨rfl, hbe⟩
    have S8 := Lib.hid (S6.out.step hbe)
    clear hbe S6 T7
    go_wp2_with (refine wpList_load_mid rfl 24 (.tmp 8) rfl w5.heap.size 0 rfl [.int .u8 yc, .int .u8 ya, .int .u8 yb, .int .u8 yd, .int .i16 yn] _ (range_all S8.out.k) Try.underlying24 rfl (by simpa using I5.out) ?_)
    refine (encode_calls yc ya yb yd yn (by omega) (by omega) (by omega) (by omega) BY _).mono ?_
    rintro e w9 ⟨rfl, hbe⟩
    have S9 := Lib.hid (S8.out.step hbe)
    clear hbe S8
    go_wp2_with fail
    refine (awake_calls _).mono ?_
    rintro e w10 ⟨rfl, hbe⟩
    have S10 := Lib.hid (S9.out.step hbe)
    have T10 := Lib.hid (T5.out.step S10.out.b)
    have A10 := Lib.hid (V1.out.step (U3.out.step T10.out.b).b).b
    clear hbe S9
    obtain ⟨ee, hE, _, hI⟩ := eql_op (c := xc) (a := xa) (b := xb) (d := xd) (n := xn) (c' := yc) (a' := ya) (b' := yb) (d' := yd) (n' := yn) (by omega) (by omega) (by omega) (by omega) BX (by omega) (by omega) (by omega) (by omega) BY
    have HEQ : Hid ((((encW xc xa xb xd xn : Nat) : Int) == ((encW yc ya yb yd yn : Nat) : Int)) = ee) := by
      show _ = _
      rw [Bool.eq_iff_iff, hI, beq_iff_eq]
      constructor
      · intro h
        have h := Int.ofNat.inj h
        rw [encW_right RX, encW_right RY] at h
        exact wordF_inj RX RY BX BY h
      · first | (intro _; rfl) | (rintro ⟨h1, h2, h3, h4, h5⟩; rw [h1, h2, h3, h4, h5])
    clear hI
    generalize ((encW yc ya yb yd yn : Nat) : Int) = e2 at *
    generalize ((encW xc xa xb xd xn : Nat) : Int) = e1 at *
    go_wp2_with (first | refine wpList_load_w rfl 24 (.tmp 7) rfl w3.heap.size 0 rfl [.int .u8 xc, .int .u8 xa, .int .u8 xb, .int .u8 xd, .int .i16 xn] _ (range_all T10.out.k) Try.underlying24 rfl (by simpa using I5.out) ?_ | refine wpList_load_w rfl 24 (.tmp 8) rfl w5.heap.size 0 rfl [.int .u8 yc, .int .u8 ya, .int .u8 yb, .int .u8 yd, .int .i16 yn] _ (range_all S10.out.k) Try.underlying24 rfl (by simpa using I5.out) ?_)
    go_ret
    exact ⟨ret_bool (by first | (rw [HEQ.out]; simp; done) | (simp [HEQ.out]; done) | (have := HEQ.out; simp_all)), A10.out⟩
end Go.Proofs.Ytbjlldenokdpeaa.Walks
