/- Walks through the functions of the statement, and the statement over them: each contract says what the call answers and that nothing else changes. -/
import Derived.Test.YtbjlldenokdpeaaProg
import Derived.Test.YtbjlldenokdpeaaBits
import Derived.Test.YtbjlldenokdpeaaHeap
import Derived.Test.YtbjlldenokdpeaaAid
import Derived.Lib.Hide
import Derived.Test.YtbjlldenokdpeaaEql
import Derived.Test.YtbjlldenokdpeaaArr
import Derived.Test.YtbjlldenokdpeaaWalkPlain
import Derived.Test.YtbjlldenokdpeaaWalkRefR
import Derived.WalkKit
import Derived.WalkSpells
import Derived.WalkLawsBesides
import Derived.Deep.QuietTactic
import Derived.BigQuiet
import Derived.Deep.RegionHeld3
import Derived.Deep.DeepCutAuto
import Derived.Deep.CutBlock
import Derived.Lib.SlBytesConst
namespace Go.Proofs.Ytbjlldenokdpeaa.Walks
set_option linter.unusedVariables false
set_option linter.unusedSimpArgs false
open Go.RowKit Go.Proofs.Ytbjlldenokdpeaa.Bits Go.Proofs.Ytbjlldenokdpeaa.Heap Go.Proofs.Ytbjlldenokdpeaa.Aid Go.Proofs.Ytbjlldenokdpeaa.Arr Go.Proofs.Ytbjlldenokdpeaa.Eql

theorem uN_i16 {n : Int} (hn : -32768 ≤ n ∧ n ≤ 32767) : IntKind.i16.wrap ((uN n : Nat) : Int) = n := by
  simp [IntKind.wrap, IntKind.signed, IntKind.bits, uN]
  omega
/-- Of a right instruction's word: the instruction. -/
theorem dec_enc {c a b d : Nat} {n : Int} (h : rightB c a b d n = true) (hn : -32768 ≤ n ∧ n ≤ 32767) :
    dC (wordF c a b d n) = c ∧ dA (wordF c a b d n) = a ∧ dB (wordF c a b d n) = b ∧ dD (wordF c a b d n) = d ∧ dN (wordF c a b d n) = n := by
  have l1 := rightB_lt h
  have u1 : uN n < 65536 := by unfold uN; omega
  have r1 := of_decide_eq_true h
  have k1 : (if fC (c : Int) then d else uN n) < 65536 := by split <;> omega
  have e1 : dC (wordF c a b d n) = c := by
    unfold dC wordF wordN
    generalize (if fC (c : Int) then d else uN n) = x at *
    omega
  have e2 : dA (wordF c a b d n) = a := by
    unfold dA wordF wordN
    generalize (if fC (c : Int) then d else uN n) = x at *
    omega
  have e3 : dB (wordF c a b d n) = b := by
    unfold dB wordF wordN
    generalize (if fC (c : Int) then d else uN n) = x at *
    omega
  refine ⟨e1, e2, e3, ?_, ?_⟩
  · unfold dD
    rw [e1]
    cases hf : fC (c : Int) with
    | true =>
      rw [if_pos rfl]
      unfold wordF wordN
      rw [hf, if_pos rfl]
      omega
    | false =>
      rw [if_neg (by simp)]
      have a1 := of_decide_eq_true r1.2.2.2.1
      rw [hf] at a1
      simp only [Bool.false_eq_true, false_and, or_false] at a1
      omega
  · unfold dN
    rw [e1]
    cases hf : fC (c : Int) with
    | true =>
      rw [if_pos rfl]
      have hr := of_decide_eq_true hf
      have hN : ¬ fN (c : Int) = true := fun h => by have := of_decide_eq_true h; omega
      exact (r1.2.2.2.2.1.resolve_left hN).symm
    | false =>
      rw [if_neg (by simp)]
      have e : wordF c a b d n / 2 ^ 0 % 2 ^ 16 = uN n := by
        unfold wordF wordN
        rw [hf, if_neg (by simp)]
        omega
      rw [e, uN_i16 hn]
theorem decOk_enc {c a b d : Nat} {n : Int} (h : rightB c a b d n = true) (hn : -32768 ≤ n ∧ n ≤ 32767) : decOk (wordF c a b d n) = true := by
  obtain ⟨e1, e2, e3, e4, e5⟩ := dec_enc h hn
  unfold decOk
  rw [e1, e2, e3, e4, e5, h, encW_right h]
  simp
theorem decCells_enc {c a b d : Nat} {n : Int} (h : rightB c a b d n = true) (hn : -32768 ≤ n ∧ n ≤ 32767) : decCells (wordF c a b d n) = [.int .u8 c, .int .u8 a, .int .u8 b, .int .u8 d, .int .i16 n] := by
  obtain ⟨e1, e2, e3, e4, e5⟩ := dec_enc h hn
  unfold decCells
  rw [decOk_enc h hn, if_pos rfl, e1, e2, e3, e4, e5]
theorem wordF_lt {c a b d : Nat} {n : Int} (h : rightB c a b d n = true) : wordF c a b d n < 2 ^ 32 := by
  have l1 := rightB_lt h
  have u1 : uN n < 65536 := by unfold uN; omega
  have k1 : (if fC (c : Int) then d else uN n) < 65536 := by split <;> omega
  unfold wordF wordN
  generalize (if fC (c : Int) then d else uN n) = x at *
  omega
set_option maxHeartbeats 4000000 in
theorem words_walk (c0 : List Value) (w : World) (f0 : Fits w (.seq (.int .u8) (.seq (.int .u8) (.seq (.int .u8) (.seq (.int .u8) (.seq (.int .i16) .nil))))) c0) :
    Calls Try.prog 6 #[.agg c0.toArray] w fun e w' => e = .returned (.bool true) ∧ Below w.heap.size w w' := by
  obtain ⟨c, a, b, d, n, rfl, hc, ha, hb, hd, hn⟩ := fits_op f0
  clear f0
  have HX := Lib.hid (near_calls c (c % 23) a b d n rfl)
  have RX := near_right (c % 23) a b d n (by omega)
  have BX := nearN_bounds (c % 23) hn
  have hc1 : c % 23 < 23 := by omega
  have hva := pickIf_lt (fA (c % 23 : Nat)) a
  have hvb := pickIf_lt (fB (c % 23 : Nat)) b
  have hvd := pickIf_lt (fC (c % 23 : Nat)) d
  generalize nearN (c % 23) n = xn at *
  generalize pickIf (fA (c % 23 : Nat)) a = xa at *
  generalize pickIf (fB (c % 23 : Nat)) b = xb at *
  generalize pickIf (fC (c % 23 : Nat)) d = xd at *
  generalize c % 23 = xc at *
  have HQ := Lib.hid refRight_calls
  have HEX : Hid (∀ w, Calls Try.prog 12 #[.agg #[.int .u8 xc, .int .u8 xa, .int .u8 xb, .int .u8 xd, .int .i16 xn]] w fun e w' => e = .returned (.tuple #[.int .u32 (wordF xc xa xb xd xn : Nat), .bool true]) ∧ Below w.heap.size w w') := fun w => by
    have h := encode_calls xc xa xb xd xn (by omega) (by omega) (by omega) (by omega) BX w
    rw [encW_right RX, RX] at h
    exact h
  have HDX : Hid (∀ w, Calls Try.prog 13 #[.int .u32 (wordF xc xa xb xd xn : Nat)] w fun e w' => e = .returned (.tuple #[.agg #[.int .u8 xc, .int .u8 xa, .int .u8 xb, .int .u8 xd, .int .i16 xn], .bool true]) ∧ Below w.heap.size w w') := fun w => by
    have h := decode_calls (wordF xc xa xb xd xn) (wordF_lt RX) w
    rw [decCells_enc RX BX, decOk_enc RX BX] at h
    exact h
  have HWX := Lib.hid (refWord_calls xc xa xb xd xn hc1 hva hvb hvd)
  have HE : Hid (∀ w, (binOp .eql 24 (.agg #[.int .u8 xc, .int .u8 xa, .int .u8 xb, .int .u8 xd, .int .i16 xn]) (.agg #[.int .u8 xc, .int .u8 xa, .int .u8 xb, .int .u8 xd, .int .i16 xn])).run Try.prog w = .ok (.bool true) w) := fun w => by
    obtain ⟨e, h1, _, h3⟩ := eql_op (c := xc) (a := xa) (b := xb) (d := xd) (n := xn) (c' := xc) (a' := xa) (b' := xb) (d' := xd) (n' := xn) (by omega) (by omega) (by omega) (by omega) BX (by omega) (by omega) (by omega) (by omega) BX
    obtain rfl := h3.2 ⟨rfl, rfl, rfl, rfl, rfl⟩
    exact h1 w
  have EZ := Lib.hid (show encW c a b d n = if rightB c a b d n = true then wordF c a b d n else 0 from rfl)
  have HEO := Lib.hid (encode_calls c a b d n hc ha hb hd hn)
  generalize encW c a b d n = ev at *
  generalize wordF xc xa xb xd xn = wx at *
  have I5 := Lib.hid size5
  go_enter Try.func6, Try.ntmps6
  go_upto_region 1 with (fail)
  have V1 : Hid (Inv w [.int .u8 c, .int .u8 a, .int .u8 b, .int .u8 d, .int .i16 n] 24 (w.alloc (.cells #[.int .u8 c, .int .u8 a, .int .u8 b, .int .u8 d, .int .i16 n] 24))) := Inv.new w _ _
  generalize w.alloc (.cells #[.int .u8 c, .int .u8 a, .int .u8 b, .int .u8 d, .int .i16 n] 24) = w1 at *
  go_wp2_with (refine wpList_load_mid rfl 24 (.tmp 1) rfl w.heap.size 0 rfl [.int .u8 c, .int .u8 a, .int .u8 b, .int .u8 d, .int .i16 n] _ (range_all V1.out.k) Try.underlying24 rfl (by simpa using I5.out) ?_)
  refine (HEO.out _).mono ?_
  rintro e w2 ⟨rfl, hbe⟩
  have V2 := Lib.hid (V1.out.step hbe)
  clear hbe V1
  have c0 := V2.out.k.cellAt (i := 0) rfl
  have c1 := V2.out.k.cellAt (i := 1) rfl
  have c2 := V2.out.k.cellAt (i := 2) rfl
  have c3 := V2.out.k.cellAt (i := 3) rfl
  have c4 := V2.out.k.cellAt (i := 4) rfl
  cases hrb : rightB c a b d n with
  | true =>
    go_wp2_with fail
    refine (HQ.out _ _ _ _ _ _).mono ?_
    rintro e w3 ⟨rfl, hbe⟩
    have V3 := Lib.hid (V2.out.step hbe)
    clear hbe V2 c0 c1 c2 c3 c4
    rw [hrb]
    go_upto_region 4 with (fail)
    go_wp2_with (refine wpList_load_mid rfl 24 (.tmp 1) rfl w.heap.size 0 rfl [.int .u8 c, .int .u8 a, .int .u8 b, .int .u8 d, .int .i16 n] _ (range_all V3.out.k) Try.underlying24 rfl (by simpa using I5.out) ?_)
    refine (HX.out _).mono ?_
    rintro e w4 ⟨rfl, hbe⟩
    have V4 := Lib.hid (V3.out.step hbe)
    have hbz := Lib.hid (V4.out.setAll [.int .u8 xc, .int .u8 xa, .int .u8 xb, .int .u8 xd, .int .i16 xn] rfl)
    clear hbe V3
    go_upto_region 5 with (refine wpList_store_mid rfl 24 (.tmp 1) (.tmp 36) rfl w.heap.size 0 #[.int .u8 xc, .int .u8 xa, .int .u8 xb, .int .u8 xd, .int .i16 xn] rfl rfl (there_of_blk V4.out.k ?s1) ?s2 ?s3 ?_)
    case s1 => simp
    case s2 => simpa using I5.out
    case s3 => simp [Value.oneCell']
    generalize w4.setCells w.heap.size 0 _ = w5 at *
    clear V4
    go_wp2_with (refine wpList_load_mid rfl 24 (.tmp 1) rfl w.heap.size 0 rfl [.int .u8 xc, .int .u8 xa, .int .u8 xb, .int .u8 xd, .int .i16 xn] _ (range_all hbz.out.k) Try.underlying24 rfl (by simpa using I5.out) ?_)
    refine (HEX.out _).mono ?_
    rintro e w6 ⟨rfl, hbe⟩
    have V6 := Lib.hid (hbz.out.step hbe)
    clear hbe hbz
    go_wp2_with fail
    refine (HDX.out _).mono ?_
    rintro e w7 ⟨rfl, hbe⟩
    have V7 := Lib.hid (V6.out.step hbe)
    clear hbe V6
    go_upto_region 7 with (fail)
    have U8 : Hid (Inv w7 [.int .u8 xc, .int .u8 xa, .int .u8 xb, .int .u8 xd, .int .i16 xn] 24 (w7.alloc (.cells #[.int .u8 xc, .int .u8 xa, .int .u8 xb, .int .u8 xd, .int .i16 xn] 24))) := Inv.new w7 _ _
    generalize w7.alloc (.cells #[.int .u8 xc, .int .u8 xa, .int .u8 xb, .int .u8 xd, .int .i16 xn] 24) = w8 at *
    go_wp2_with fail
    refine (awake_calls _).mono ?_
    rintro e w9 ⟨rfl, hbe⟩
    have U9 := Lib.hid (U8.out.step hbe)
    have V9 := Lib.hid (V7.out.step U9.out.b)
    clear hbe U8
    have c0 := V9.out.k.cellAt (i := 0) rfl
    have c1 := V9.out.k.cellAt (i := 1) rfl
    have c2 := V9.out.k.cellAt (i := 2) rfl
    have c3 := V9.out.k.cellAt (i := 3) rfl
    have c4 := V9.out.k.cellAt (i := 4) rfl
    go_wp2_with fail
    refine (HWX.out _).mono ?_
    rintro e w10 ⟨rfl, hbe⟩
    have U10 := Lib.hid (U9.out.step hbe)
    have V10 := Lib.hid (V7.out.step U10.out.b)
    clear hbe U9 V9 c0 c1 c2 c3 c4
    have hE := HE.out
    go_wp2_with (first | refine wpList_load_w rfl 24 (.tmp 7) rfl w7.heap.size 0 rfl [.int .u8 xc, .int .u8 xa, .int .u8 xb, .int .u8 xd, .int .i16 xn] _ (range_all U10.out.k) Try.underlying24 rfl (by simpa using I5.out) ?_ | refine wpList_load_w rfl 24 (.tmp 1) rfl w.heap.size 0 rfl [.int .u8 xc, .int .u8 xa, .int .u8 xb, .int .u8 xd, .int .i16 xn] _ (range_all V10.out.k) Try.underlying24 rfl (by simpa using I5.out) ?_)
    go_ret
    exact ⟨ret_bool (by simp), V10.out.b⟩
  | false =>
    have he0 : ev = 0 := by rw [EZ.out, hrb]; rfl
    subst he0
    go_wp2_with fail
    refine (HQ.out _ _ _ _ _ _).mono ?_
    rintro e w3 ⟨rfl, hbe⟩
    have V3 := Lib.hid (V2.out.step hbe)
    clear hbe V2 c0 c1 c2 c3 c4
    rw [hrb]
    go_upto_region 4 with (fail)
    go_wp2_with (refine wpList_load_mid rfl 24 (.tmp 1) rfl w.heap.size 0 rfl [.int .u8 c, .int .u8 a, .int .u8 b, .int .u8 d, .int .i16 n] _ (range_all V3.out.k) Try.underlying24 rfl (by simpa using I5.out) ?_)
    refine (HX.out _).mono ?_
    rintro e w4 ⟨rfl, hbe⟩
    have V4 := Lib.hid (V3.out.step hbe)
    have hbz := Lib.hid (V4.out.setAll [.int .u8 xc, .int .u8 xa, .int .u8 xb, .int .u8 xd, .int .i16 xn] rfl)
    clear hbe V3
    go_upto_region 5 with (refine wpList_store_mid rfl 24 (.tmp 1) (.tmp 36) rfl w.heap.size 0 #[.int .u8 xc, .int .u8 xa, .int .u8 xb, .int .u8 xd, .int .i16 xn] rfl rfl (there_of_blk V4.out.k ?s1) ?s2 ?s3 ?_)
    case s1 => simp
    case s2 => simpa using I5.out
    case s3 => simp [Value.oneCell']
    generalize w4.setCells w.heap.size 0 _ = w5 at *
    clear V4
    go_wp2_with (refine wpList_load_mid rfl 24 (.tmp 1) rfl w.heap.size 0 rfl [.int .u8 xc, .int .u8 xa, .int .u8 xb, .int .u8 xd, .int .i16 xn] _ (range_all hbz.out.k) Try.underlying24 rfl (by simpa using I5.out) ?_)
    refine (HEX.out _).mono ?_
    rintro e w6 ⟨rfl, hbe⟩
    have V6 := Lib.hid (hbz.out.step hbe)
    clear hbe hbz
    go_wp2_with fail
    refine (HDX.out _).mono ?_
    rintro e w7 ⟨rfl, hbe⟩
    have V7 := Lib.hid (V6.out.step hbe)
    clear hbe V6
    go_upto_region 7 with (fail)
    have U8 : Hid (Inv w7 [.int .u8 xc, .int .u8 xa, .int .u8 xb, .int .u8 xd, .int .i16 xn] 24 (w7.alloc (.cells #[.int .u8 xc, .int .u8 xa, .int .u8 xb, .int .u8 xd, .int .i16 xn] 24))) := Inv.new w7 _ _
    generalize w7.alloc (.cells #[.int .u8 xc, .int .u8 xa, .int .u8 xb, .int .u8 xd, .int .i16 xn] 24) = w8 at *
    go_wp2_with fail
    refine (awake_calls _).mono ?_
    rintro e w9 ⟨rfl, hbe⟩
    have U9 := Lib.hid (U8.out.step hbe)
    have V9 := Lib.hid (V7.out.step U9.out.b)
    clear hbe U8
    have c0 := V9.out.k.cellAt (i := 0) rfl
    have c1 := V9.out.k.cellAt (i := 1) rfl
    have c2 := V9.out.k.cellAt (i := 2) rfl
    have c3 := V9.out.k.cellAt (i := 3) rfl
    have c4 := V9.out.k.cellAt (i := 4) rfl
    go_wp2_with fail
    refine (HWX.out _).mono ?_
    rintro e w10 ⟨rfl, hbe⟩
    have U10 := Lib.hid (U9.out.step hbe)
    have V10 := Lib.hid (V7.out.step U10.out.b)
    clear hbe U9 V9 c0 c1 c2 c3 c4
    have hE := HE.out
    go_wp2_with (first | refine wpList_load_w rfl 24 (.tmp 7) rfl w7.heap.size 0 rfl [.int .u8 xc, .int .u8 xa, .int .u8 xb, .int .u8 xd, .int .i16 xn] _ (range_all U10.out.k) Try.underlying24 rfl (by simpa using I5.out) ?_ | refine wpList_load_w rfl 24 (.tmp 1) rfl w.heap.size 0 rfl [.int .u8 xc, .int .u8 xa, .int .u8 xb, .int .u8 xd, .int .i16 xn] _ (range_all V10.out.k) Try.underlying24 rfl (by simpa using I5.out) ?_)
    go_ret
    exact ⟨ret_bool (by simp), V10.out.b⟩
end Go.Proofs.Ytbjlldenokdpeaa.Walks
