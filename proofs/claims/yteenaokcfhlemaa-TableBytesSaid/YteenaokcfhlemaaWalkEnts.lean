/- Walks through the functions of the statement, and the statement over them: each contract says what the call answers and that nothing else changes. -/
import Derived.Test.YteenaokcfhlemaaProg
import Derived.Laws.BytesString
import Derived.Test.YteenaokcfhlemaaBits
import Derived.Test.YteenaokcfhlemaaHeap
import Derived.Test.YteenaokcfhlemaaAid
import Derived.Lib.Hide
import Derived.Test.YteenaokcfhlemaaArr
import Derived.Test.YteenaokcfhlemaaEql
import Derived.Test.YteenaokcfhlemaaWalkPack

import Derived.WalkKit
import Derived.WalkSpells
import Derived.WalkLawsBesides
import Derived.Deep.QuietTactic
import Derived.BigQuiet
import Derived.Deep.RegionHeld3
import Derived.Deep.DeepCutAuto
import Derived.Deep.CutBlock
import Derived.Lib.SlBytesConst
import Derived.StillTailTactics
import Derived.Laws.MakeOwn
import Derived.Deep.AppendLies
import Derived.Laws.CopyOwn
import Derived.Maps.AppendAt
import Derived.Deep.Upon
import Derived.Deep.AppendSrc
import Derived.RegionTactic
namespace Go.Proofs.Yteenaokcfhlemaa.Walks
set_option linter.unusedVariables false
set_option linter.unusedSimpArgs false
open Go.RowKit Go.Proofs.Yteenaokcfhlemaa.Bits Go.Proofs.Yteenaokcfhlemaa.Heap Go.Proofs.Yteenaokcfhlemaa.Aid Go.Proofs.Yteenaokcfhlemaa.Arr Go.Proofs.Yteenaokcfhlemaa.Eql

theorem un_pack {f : Int} {fr : Nat} (hfr : fr < 65536) (wr : Bool) : unV f (packN f true (fr : Int) wr) = .tuple #[.agg #[.bool true, .int .i64 (fr : Int), .bool wr], .bool true] := by
  have hu : uFr (fr : Int) = fr := by unfold uFr; omega
  have hm : fr % 65536 = fr := Nat.mod_eq_of_lt hfr
  have hh : packN f true (fr : Int) wr ≠ 0 ∧ unF f (packN f true (fr : Int) wr) = fr ∧ unW f (packN f true (fr : Int) wr) = wr := by
    by_cases h : f = 1
    · have e : packN f true (fr : Int) wr = 1 + 256 * fr + (if wr then 2 else 0) := by unfold packN; rw [if_neg (by simp), if_pos h, hu, hm]
      unfold unF unW
      rw [e, if_pos h, if_pos h]
      refine ⟨by omega, ?_, ?_⟩
      · cases wr <;> simp <;> omega
      · cases wr
        · exact decide_eq_false (by simp; omega)
        · exact decide_eq_true (by simp; omega)
    · have e : packN f true (fr : Int) wr = 9223372036854775808 + (65535 - fr) + (if wr then 4611686018427387904 else 0) := by unfold packN; rw [if_neg (by simp), if_neg h, hu, hm]
      unfold unF unW
      rw [e, if_neg h, if_neg h]
      refine ⟨by omega, ?_, ?_⟩
      · cases wr <;> simp <;> omega
      · cases wr
        · exact decide_eq_false (by simp; omega)
        · exact decide_eq_true (by simp; omega)
  obtain ⟨h0, h1, h2⟩ := hh
  have h3 := un_yes h0 (by rw [h1, h2])
  rw [h1, h2] at h3
  exact h3
set_option maxHeartbeats 1000000 in
theorem awake_calls (w : World) : Calls Try.prog 9 #[] w fun e w' => e = .returned (.bool true) ∧ Below w.heap.size w w' := by
  have P := Lib.hid (pack_calls 1 true 5 true w)
  rw [show packN 1 true 5 true = 1283 by decide] at P
  go_enter Try.func9, Try.ntmps9
  go_wp2_with (go_at_call 10; refine P.out.mono ?_; rintro e w' ⟨rfl, u⟩; have U := Lib.hid u; clear u)
  go_ret
  exact ⟨rfl, U.out⟩
theorem form_calls (n : Nat) (hn : n < 256) (w : World) : Calls Try.prog 7 #[.int .u8 (n : Int)] w fun e w' => e = .returned (.int .i64 (1 + (n : Int) % 2)) ∧ w = w' := by
  have h0 : 0 ≤ (n : Int) := by omega
  have h1 : (n : Int) ≤ 255 := by omega
  generalize (n : Int) = ni at *
  go_enter Try.func7, Try.ntmps7
  go_wp2
  go_ret
  exact ⟨rfl, rfl⟩
def entSh : Sh := .seq .bool (.seq (.int .i64) (.seq .bool .nil))
theorem fits_ent {a c : Bool} {b : Int} (hb : (Lit.int .i64 b).wf = true) (w : World) : Fits w entSh [.bool a, .int .i64 b, .bool c] :=
  ⟨[_], _, rfl, ⟨_, rfl⟩, [_], _, rfl, ⟨_, rfl, hb⟩, [_], _, rfl, ⟨_, rfl⟩, rfl⟩
theorem eql_ent {a c : Bool} {b : Int} (hb : (Lit.int .i64 b).wf = true) (W : World) :
    (binOp .eql 26 (.agg #[.bool a, .int .i64 b, .bool c]) (.agg #[.bool a, .int .i64 b, .bool c])).run Try.prog W = .ok (.bool true) W :=
  (eql_same (P := Try.prog) (w := W) (w0 := W) (n := 3) (t := 26) (s := entSh) (by kernel_rfl) (by omega) (by kernel_rfl) (fits_ent hb W)).1
theorem wf_small {x : Int} (hx : 0 ≤ x ∧ x ≤ 4294967296) : (Lit.int .i64 x).wf = true := by simp [Lit.wf, IntKind.min, IntKind.max, IntKind.signed, IntKind.bits]; omega
/-- A word's entry, of three kinds. -/
theorem un_cases (f : Int) (v : Nat) : (v = 0 ∧ unV f v = .tuple #[.agg #[.bool false, .int .i64 0, .bool false], .bool true]) ∨ (∃ (fr : Int) (wr : Bool), v ≠ 0 ∧ packN f true fr wr = v ∧ unV f v = .tuple #[.agg #[.bool true, .int .i64 fr, .bool wr], .bool true]) ∨
    (v ≠ 0 ∧ unV f v = .tuple #[.agg #[.bool false, .int .i64 0, .bool false], .bool false]) := by
  by_cases h0 : v = 0
  · subst h0
    exact .inl ⟨rfl, un_zero f⟩
  · by_cases hp : packN f true (unF f v : Nat) (unW f v) = v
    · exact .inr (.inl ⟨_, _, h0, hp, un_yes h0 hp⟩)
    · exact .inr (.inr ⟨h0, un_no h0 hp⟩)
theorem pack_val {f : Int} {fr : Nat} (hfr : fr < 65536) (wr : Bool) : ((packN f true (fr : Int) wr : Nat) : Int) = if f = 1 then 1 + 256 * (fr : Int) + (if wr then 2 else 0) else 9223372036854775808 + (65535 - (fr : Int)) + (if wr then 4611686018427387904 else 0) := by
  have hu : uFr (fr : Int) = fr := by unfold uFr; omega
  have hm : fr % 65536 = fr := Nat.mod_eq_of_lt hfr
  unfold packN
  rw [if_neg (by simp), hu, hm]
  by_cases h : f = 1
  · rw [if_pos h, if_pos h]; cases wr <;> simp
  · rw [if_neg h, if_neg h]; cases wr <;> simp <;> omega
theorem val_u64 {a b : Int} (h : a = b) : Value.int .u64 a = .int .u64 b := by rw [h]
set_option maxRecDepth 8000 in
set_option maxHeartbeats 8000000 in
theorem entries_walk (fr : Int) (wr th : Bool) (v n : Int) (w : World) (w0 : (Lit.int .u16 fr).wf = true) (w3 : (Lit.int .u64 v).wf = true) (w4 : (Lit.int .u8 n).wf = true) :
    Calls Try.prog 3 #[.int .u16 fr, .bool wr, .bool th, .int .u64 v, .int .u8 n] w fun e w' => e = .returned (.bool true) ∧ Below w.heap.size w w' := by
  obtain ⟨fr, rfl, hfr⟩ := wf_nat (k := .u16) rfl w0
  replace hfr : fr < 65536 := hfr
  obtain ⟨v, rfl, hv⟩ := wf_u64 w3
  obtain ⟨n, rfl, hn⟩ := wf_u8 w4
  have FC := Lib.hid (fun W => form_calls n hn W)
  obtain ⟨f, hf⟩ : ∃ f : Int, 1 + (n : Int) % 2 = f := ⟨_, rfl⟩
  have hf2 : f = 1 ∨ f = 2 := by omega
  rw [hf] at FC
  clear hf hn w0 w3 w4
  have hfr0 : 0 ≤ (fr : Int) := by omega
  have hfr1 : (fr : Int) ≤ 65535 := by omega
  have W1 : Hid (packN f th (fr : Int) wr = packN f th (fr : Int) wr) := rfl
  obtain ⟨xt, xf, xw, hx⟩ : ∃ (xt : Bool) (xf : Int) (xw : Bool), (th = true ∧ xt = true ∧ xf = (fr : Int) ∧ xw = wr) ∨ (th = false ∧ xt = false ∧ xf = 0 ∧ xw = false) := by
    cases th
    · exact ⟨false, 0, false, .inr ⟨rfl, rfl, rfl, rfl⟩⟩
    · exact ⟨true, fr, wr, .inl ⟨rfl, rfl, rfl, rfl⟩⟩
  have HX := Lib.hid hx
  have HF := Lib.hid hf2
  have HV := Lib.hid hv
  have HR := Lib.hid hfr
  clear hx hf2 hv hfr W1
  go_enter Try.func3, Try.ntmps3
  go_upto_region 3 with (go_at_call 7; refine (FC.out _).mono ?_; rintro e w' ⟨rfl, rfl⟩)
  have X1 := Lib.hid (Own.new (Below.refl _ w) #[.bool true, .int .i64 (fr : Int), .bool wr] 26)
  generalize w.alloc _ = w1 at *
  have PV := Lib.hid (pack_val (f := f) HR.out wr)
  have PF := Lib.hid (show th = false → ((packN f th (fr : Int) wr : Nat) : Int) = 0 from fun h => by rw [h]; rfl)
  have PT := Lib.hid (show th = true → packN f th (fr : Int) wr = packN f true (fr : Int) wr from fun h => by rw [h])
  have UP := Lib.hid (un_pack (f := f) HR.out wr)
  have x0 := X1.out.cell (i := 0) rfl
  have x1 := X1.out.cell (i := 1) rfl
  have x2 := X1.out.cell (i := 2) rfl
  have g0 := X1.out.fro 0
  have g1 := X1.out.fro 1
  have g2 := X1.out.fro 2
  have I3 := Lib.hid size3
  rcases HX.out with ⟨rfl, rfl, rfl, rfl⟩ | ⟨rfl, rfl, rfl, rfl⟩
  · have HE := fun W => eql_ent (a := true) (c := xw) (b := (fr : Int)) (wf_small (by omega)) W
    rcases HF.out with rfl | rfl
    · have HU2 := Lib.hid (un_cases 1 v)
      have PN := Lib.hid (packN_lt 1 true (fr : Int) xw)
      have UC := Lib.hid (fun W => unpack_calls 1 _ PN.out W)
      rw [UP.out] at UC
      have P1 := Lib.hid (fun W => pack_calls 1 true (fr : Int) xw W)
      have PW := Lib.hid PV.out
      clear PV PF PT UP PN HF HR HX FC
      generalize ((packN 1 true (fr : Int) xw : Nat) : Int) = pk at *
      generalize (fr : Int) = fi at *
      cases xw
      · have hpk : 1 + fi * 256 = pk := by
          have h := PW.out
          simp at h
          omega
        clear PW
        go_upto_region 14 with (fail)
        try simp only [hpk]
        clear hpk
        rcases HU2.out with ⟨hv0, hu⟩ | ⟨zf, zw, hv0, hp, hu⟩ | ⟨hv0, hu⟩
        · have U2 := Lib.hid (fun W => unpack_calls 1 v HV.out W)
          rw [hu] at U2
          have P2 : Hid (∀ W, Calls Try.prog 10 #[.int .i64 1, .agg #[.bool false, .int .i64 0, .bool false]] W fun e w' => e = .returned (.int .u64 (v : Int)) ∧ Below W.heap.size W w') := by
            intro W
            have h := pack_calls 1 false 0 false W
            rw [show ((packN 1 false 0 false : Nat) : Int) = (v : Int) by rw [hv0]; rfl] at h
            exact h
          have hz : ((v : Int) == 0) = true := beq_iff_eq.2 (by omega)
          clear hu HU2 HV hv0
          generalize (v : Int) = vi at *
          go_upto_region 15 with (go_at_call 8; refine (UC.out _).mono ?_; rintro e w2 ⟨rfl, u2⟩; have X2 := Lib.hid (X1.out.step u2); clear u2)
          have Y3 := Lib.hid (Own.new X2.out.bel #[.bool true, .int .i64 fi, .bool false] 26)
          have X3 := Lib.hid (X2.out.alloc (.cells #[.bool true, .int .i64 fi, .bool false] 26))
          clear X1 X2 UC x0 x1 x2 g0 g1 g2
          generalize w2.alloc _ = w3 at *
          generalize w2.heap.size = NY at *
          go_upto_region 16 with (go_at_call 8; refine (U2.out _).mono ?_; rintro e w4 ⟨rfl, u4⟩; have X4 := Lib.hid (X3.out.step u4); have Y4 := Lib.hid (Y3.out.step u4); clear u4)
          have Z5 := Lib.hid (Own.new X4.out.bel #[.bool false, .int .i64 0, .bool false] 26)
          have X5 := Lib.hid (X4.out.alloc (.cells #[.bool false, .int .i64 0, .bool false] 26))
          have Y5 := Lib.hid (Y4.out.alloc (.cells #[.bool false, .int .i64 0, .bool false] 26))
          clear X3 Y3 X4 Y4 U2
          generalize w4.alloc _ = w5 at *
          generalize w4.heap.size = NZ at *
          go_wp2_with (first
            | (go_at_call 9; refine (awake_calls _).mono ?_; rintro e w6 ⟨rfl, u6⟩; have X6 := Lib.hid (X5.out.step u6); have Y6 := Lib.hid (Y5.out.step u6); have Z6 := Lib.hid (Z5.out.step u6); clear u6)
            | ((with_reducible refine load_gate (26) (12) ?_); first | refine wpList_load_w (by rfl) 26 (.tmp 12) rfl w.heap.size 0 rfl [.bool true, .int .i64 fi, .bool false] _ X7.out.all Try.underlying26 rfl I3.out ?_ | refine wpList_load_w (by rfl) 26 (.tmp 12) rfl w.heap.size 0 rfl [.bool true, .int .i64 fi, .bool false] _ X6.out.all Try.underlying26 rfl I3.out ?_)
            | ((with_reducible refine load_gate (26) (14) ?_); refine wpList_load_w (by rfl) 26 (.tmp 14) rfl NY 0 rfl [.bool true, .int .i64 fi, .bool false] _ Y7.out.all Try.underlying26 rfl I3.out ?_)
            | ((with_reducible refine load_gate (26) (16) ?_); refine wpList_load_w (by rfl) 26 (.tmp 16) rfl NZ 0 rfl [.bool false, .int .i64 0, .bool false] _ Z7.out.all Try.underlying26 rfl I3.out ?_)
            | (go_at_call 10; refine (P1.out _).mono ?_; rintro e w7 ⟨rfl, u7⟩; have X7 := Lib.hid (X6.out.step u7); have Y7 := Lib.hid (Y6.out.step u7); have Z7 := Lib.hid (Z6.out.step u7); clear u7 P1)
            | (go_at_call 10; refine (P2.out _).mono ?_; rintro e w8 ⟨rfl, u8⟩; have Z8 := Lib.hid (Z7.out.step u8); have zc0 := Z8.out.cell (i := 0) rfl; clear u8))
          go_ret
          exact ⟨rfl, Z8.out.bel⟩
        · have U2 := Lib.hid (fun W => unpack_calls 1 v HV.out W)
          rw [hu] at U2
          have P2 : Hid (∀ W, Calls Try.prog 10 #[.int .i64 1, .agg #[.bool true, .int .i64 zf, .bool zw]] W fun e w' => e = .returned (.int .u64 (v : Int)) ∧ Below W.heap.size W w') := by
            intro W
            have h := pack_calls 1 true zf zw W
            rw [show ((packN 1 true zf zw : Nat) : Int) = (v : Int) by rw [← hp]] at h
            exact h
          have hz : ((v : Int) == 0) = false := beq_false_of_ne (by omega)
          clear hu HU2 HV hv0 hp
          generalize (v : Int) = vi at *
          go_upto_region 15 with (go_at_call 8; refine (UC.out _).mono ?_; rintro e w2 ⟨rfl, u2⟩; have X2 := Lib.hid (X1.out.step u2); clear u2)
          have Y3 := Lib.hid (Own.new X2.out.bel #[.bool true, .int .i64 fi, .bool false] 26)
          have X3 := Lib.hid (X2.out.alloc (.cells #[.bool true, .int .i64 fi, .bool false] 26))
          clear X1 X2 UC x0 x1 x2 g0 g1 g2
          generalize w2.alloc _ = w3 at *
          generalize w2.heap.size = NY at *
          go_upto_region 16 with (go_at_call 8; refine (U2.out _).mono ?_; rintro e w4 ⟨rfl, u4⟩; have X4 := Lib.hid (X3.out.step u4); have Y4 := Lib.hid (Y3.out.step u4); clear u4)
          have Z5 := Lib.hid (Own.new X4.out.bel #[.bool true, .int .i64 zf, .bool zw] 26)
          have X5 := Lib.hid (X4.out.alloc (.cells #[.bool true, .int .i64 zf, .bool zw] 26))
          have Y5 := Lib.hid (Y4.out.alloc (.cells #[.bool true, .int .i64 zf, .bool zw] 26))
          clear X3 Y3 X4 Y4 U2
          generalize w4.alloc _ = w5 at *
          generalize w4.heap.size = NZ at *
          go_wp2_with (first
            | (go_at_call 9; refine (awake_calls _).mono ?_; rintro e w6 ⟨rfl, u6⟩; have X6 := Lib.hid (X5.out.step u6); have Y6 := Lib.hid (Y5.out.step u6); have Z6 := Lib.hid (Z5.out.step u6); clear u6)
            | ((with_reducible refine load_gate (26) (12) ?_); first | refine wpList_load_w (by rfl) 26 (.tmp 12) rfl w.heap.size 0 rfl [.bool true, .int .i64 fi, .bool false] _ X7.out.all Try.underlying26 rfl I3.out ?_ | refine wpList_load_w (by rfl) 26 (.tmp 12) rfl w.heap.size 0 rfl [.bool true, .int .i64 fi, .bool false] _ X6.out.all Try.underlying26 rfl I3.out ?_)
            | ((with_reducible refine load_gate (26) (14) ?_); refine wpList_load_w (by rfl) 26 (.tmp 14) rfl NY 0 rfl [.bool true, .int .i64 fi, .bool false] _ Y7.out.all Try.underlying26 rfl I3.out ?_)
            | ((with_reducible refine load_gate (26) (16) ?_); refine wpList_load_w (by rfl) 26 (.tmp 16) rfl NZ 0 rfl [.bool true, .int .i64 zf, .bool zw] _ Z7.out.all Try.underlying26 rfl I3.out ?_)
            | (go_at_call 10; refine (P1.out _).mono ?_; rintro e w7 ⟨rfl, u7⟩; have X7 := Lib.hid (X6.out.step u7); have Y7 := Lib.hid (Y6.out.step u7); have Z7 := Lib.hid (Z6.out.step u7); clear u7 P1)
            | (go_at_call 10; refine (P2.out _).mono ?_; rintro e w8 ⟨rfl, u8⟩; have Z8 := Lib.hid (Z7.out.step u8); have zc0 := Z8.out.cell (i := 0) rfl; clear u8))
          go_ret
          exact ⟨rfl, Z8.out.bel⟩
        · have U2 := Lib.hid (fun W => unpack_calls 1 v HV.out W)
          rw [hu] at U2
          have P2 : Hid (∀ W, Calls Try.prog 10 #[.int .i64 1, .agg #[.bool false, .int .i64 0, .bool false]] W fun e w' => e = .returned (.int .u64 0) ∧ Below W.heap.size W w') := by
            intro W
            have h := pack_calls 1 false 0 false W
            rw [show ((packN 1 false 0 false : Nat) : Int) = 0 by rfl] at h
            exact h
          have hz : ((v : Int) == 0) = false := beq_false_of_ne (by omega)
          have hz2 : ((0 : Int) == (v : Int)) = false := beq_false_of_ne (by omega)
          clear hu HU2 HV hv0
          generalize (v : Int) = vi at *
          go_upto_region 15 with (go_at_call 8; refine (UC.out _).mono ?_; rintro e w2 ⟨rfl, u2⟩; have X2 := Lib.hid (X1.out.step u2); clear u2)
          have Y3 := Lib.hid (Own.new X2.out.bel #[.bool true, .int .i64 fi, .bool false] 26)
          have X3 := Lib.hid (X2.out.alloc (.cells #[.bool true, .int .i64 fi, .bool false] 26))
          clear X1 X2 UC x0 x1 x2 g0 g1 g2
          generalize w2.alloc _ = w3 at *
          generalize w2.heap.size = NY at *
          go_upto_region 16 with (go_at_call 8; refine (U2.out _).mono ?_; rintro e w4 ⟨rfl, u4⟩; have X4 := Lib.hid (X3.out.step u4); have Y4 := Lib.hid (Y3.out.step u4); clear u4)
          have Z5 := Lib.hid (Own.new X4.out.bel #[.bool false, .int .i64 0, .bool false] 26)
          have X5 := Lib.hid (X4.out.alloc (.cells #[.bool false, .int .i64 0, .bool false] 26))
          have Y5 := Lib.hid (Y4.out.alloc (.cells #[.bool false, .int .i64 0, .bool false] 26))
          clear X3 Y3 X4 Y4 U2
          generalize w4.alloc _ = w5 at *
          generalize w4.heap.size = NZ at *
          go_wp2_with (first
            | (go_at_call 9; refine (awake_calls _).mono ?_; rintro e w6 ⟨rfl, u6⟩; have X6 := Lib.hid (X5.out.step u6); have Y6 := Lib.hid (Y5.out.step u6); have Z6 := Lib.hid (Z5.out.step u6); clear u6)
            | ((with_reducible refine load_gate (26) (12) ?_); first | refine wpList_load_w (by rfl) 26 (.tmp 12) rfl w.heap.size 0 rfl [.bool true, .int .i64 fi, .bool false] _ X7.out.all Try.underlying26 rfl I3.out ?_ | refine wpList_load_w (by rfl) 26 (.tmp 12) rfl w.heap.size 0 rfl [.bool true, .int .i64 fi, .bool false] _ X6.out.all Try.underlying26 rfl I3.out ?_)
            | ((with_reducible refine load_gate (26) (14) ?_); refine wpList_load_w (by rfl) 26 (.tmp 14) rfl NY 0 rfl [.bool true, .int .i64 fi, .bool false] _ Y7.out.all Try.underlying26 rfl I3.out ?_)
            | ((with_reducible refine load_gate (26) (16) ?_); refine wpList_load_w (by rfl) 26 (.tmp 16) rfl NZ 0 rfl [.bool false, .int .i64 0, .bool false] _ Z7.out.all Try.underlying26 rfl I3.out ?_)
            | (go_at_call 10; refine (P1.out _).mono ?_; rintro e w7 ⟨rfl, u7⟩; have X7 := Lib.hid (X6.out.step u7); have Y7 := Lib.hid (Y6.out.step u7); have Z7 := Lib.hid (Z6.out.step u7); clear u7 P1)
            | (go_at_call 10; refine (P2.out _).mono ?_; rintro e w8 ⟨rfl, u8⟩; have Z8 := Lib.hid (Z7.out.step u8); have zc0 := Z8.out.cell (i := 0) rfl; clear u8))
          go_ret
          exact ⟨rfl, Z8.out.bel⟩
      · have hpk : 1 + fi * 256 + 2 = pk := by
          have h := PW.out
          simp at h
          omega
        clear PW
        go_upto_region 14 with (fail)
        try simp only [hpk]
        clear hpk
        rcases HU2.out with ⟨hv0, hu⟩ | ⟨zf, zw, hv0, hp, hu⟩ | ⟨hv0, hu⟩
        · have U2 := Lib.hid (fun W => unpack_calls 1 v HV.out W)
          rw [hu] at U2
          have P2 : Hid (∀ W, Calls Try.prog 10 #[.int .i64 1, .agg #[.bool false, .int .i64 0, .bool false]] W fun e w' => e = .returned (.int .u64 (v : Int)) ∧ Below W.heap.size W w') := by
            intro W
            have h := pack_calls 1 false 0 false W
            rw [show ((packN 1 false 0 false : Nat) : Int) = (v : Int) by rw [hv0]; rfl] at h
            exact h
          have hz : ((v : Int) == 0) = true := beq_iff_eq.2 (by omega)
          clear hu HU2 HV hv0
          generalize (v : Int) = vi at *
          go_upto_region 15 with (go_at_call 8; refine (UC.out _).mono ?_; rintro e w2 ⟨rfl, u2⟩; have X2 := Lib.hid (X1.out.step u2); clear u2)
          have Y3 := Lib.hid (Own.new X2.out.bel #[.bool true, .int .i64 fi, .bool true] 26)
          have X3 := Lib.hid (X2.out.alloc (.cells #[.bool true, .int .i64 fi, .bool true] 26))
          clear X1 X2 UC x0 x1 x2 g0 g1 g2
          generalize w2.alloc _ = w3 at *
          generalize w2.heap.size = NY at *
          go_upto_region 16 with (go_at_call 8; refine (U2.out _).mono ?_; rintro e w4 ⟨rfl, u4⟩; have X4 := Lib.hid (X3.out.step u4); have Y4 := Lib.hid (Y3.out.step u4); clear u4)
          have Z5 := Lib.hid (Own.new X4.out.bel #[.bool false, .int .i64 0, .bool false] 26)
          have X5 := Lib.hid (X4.out.alloc (.cells #[.bool false, .int .i64 0, .bool false] 26))
          have Y5 := Lib.hid (Y4.out.alloc (.cells #[.bool false, .int .i64 0, .bool false] 26))
          clear X3 Y3 X4 Y4 U2
          generalize w4.alloc _ = w5 at *
          generalize w4.heap.size = NZ at *
          go_wp2_with (first
            | (go_at_call 9; refine (awake_calls _).mono ?_; rintro e w6 ⟨rfl, u6⟩; have X6 := Lib.hid (X5.out.step u6); have Y6 := Lib.hid (Y5.out.step u6); have Z6 := Lib.hid (Z5.out.step u6); clear u6)
            | ((with_reducible refine load_gate (26) (12) ?_); first | refine wpList_load_w (by rfl) 26 (.tmp 12) rfl w.heap.size 0 rfl [.bool true, .int .i64 fi, .bool true] _ X7.out.all Try.underlying26 rfl I3.out ?_ | refine wpList_load_w (by rfl) 26 (.tmp 12) rfl w.heap.size 0 rfl [.bool true, .int .i64 fi, .bool true] _ X6.out.all Try.underlying26 rfl I3.out ?_)
            | ((with_reducible refine load_gate (26) (14) ?_); refine wpList_load_w (by rfl) 26 (.tmp 14) rfl NY 0 rfl [.bool true, .int .i64 fi, .bool true] _ Y7.out.all Try.underlying26 rfl I3.out ?_)
            | ((with_reducible refine load_gate (26) (16) ?_); refine wpList_load_w (by rfl) 26 (.tmp 16) rfl NZ 0 rfl [.bool false, .int .i64 0, .bool false] _ Z7.out.all Try.underlying26 rfl I3.out ?_)
            | (go_at_call 10; refine (P1.out _).mono ?_; rintro e w7 ⟨rfl, u7⟩; have X7 := Lib.hid (X6.out.step u7); have Y7 := Lib.hid (Y6.out.step u7); have Z7 := Lib.hid (Z6.out.step u7); clear u7 P1)
            | (go_at_call 10; refine (P2.out _).mono ?_; rintro e w8 ⟨rfl, u8⟩; have Z8 := Lib.hid (Z7.out.step u8); have zc0 := Z8.out.cell (i := 0) rfl; clear u8))
          go_ret
          exact ⟨rfl, Z8.out.bel⟩
        · have U2 := Lib.hid (fun W => unpack_calls 1 v HV.out W)
          rw [hu] at U2
          have P2 : Hid (∀ W, Calls Try.prog 10 #[.int .i64 1, .agg #[.bool true, .int .i64 zf, .bool zw]] W fun e w' => e = .returned (.int .u64 (v : Int)) ∧ Below W.heap.size W w') := by
            intro W
            have h := pack_calls 1 true zf zw W
            rw [show ((packN 1 true zf zw : Nat) : Int) = (v : Int) by rw [← hp]] at h
            exact h
          have hz : ((v : Int) == 0) = false := beq_false_of_ne (by omega)
          clear hu HU2 HV hv0 hp
          generalize (v : Int) = vi at *
          go_upto_region 15 with (go_at_call 8; refine (UC.out _).mono ?_; rintro e w2 ⟨rfl, u2⟩; have X2 := Lib.hid (X1.out.step u2); clear u2)
          have Y3 := Lib.hid (Own.new X2.out.bel #[.bool true, .int .i64 fi, .bool true] 26)
          have X3 := Lib.hid (X2.out.alloc (.cells #[.bool true, .int .i64 fi, .bool true] 26))
          clear X1 X2 UC x0 x1 x2 g0 g1 g2
          generalize w2.alloc _ = w3 at *
          generalize w2.heap.size = NY at *
          go_upto_region 16 with (go_at_call 8; refine (U2.out _).mono ?_; rintro e w4 ⟨rfl, u4⟩; have X4 := Lib.hid (X3.out.step u4); have Y4 := Lib.hid (Y3.out.step u4); clear u4)
          have Z5 := Lib.hid (Own.new X4.out.bel #[.bool true, .int .i64 zf, .bool zw] 26)
          have X5 := Lib.hid (X4.out.alloc (.cells #[.bool true, .int .i64 zf, .bool zw] 26))
          have Y5 := Lib.hid (Y4.out.alloc (.cells #[.bool true, .int .i64 zf, .bool zw] 26))
          clear X3 Y3 X4 Y4 U2
          generalize w4.alloc _ = w5 at *
          generalize w4.heap.size = NZ at *
          go_wp2_with (first
            | (go_at_call 9; refine (awake_calls _).mono ?_; rintro e w6 ⟨rfl, u6⟩; have X6 := Lib.hid (X5.out.step u6); have Y6 := Lib.hid (Y5.out.step u6); have Z6 := Lib.hid (Z5.out.step u6); clear u6)
            | ((with_reducible refine load_gate (26) (12) ?_); first | refine wpList_load_w (by rfl) 26 (.tmp 12) rfl w.heap.size 0 rfl [.bool true, .int .i64 fi, .bool true] _ X7.out.all Try.underlying26 rfl I3.out ?_ | refine wpList_load_w (by rfl) 26 (.tmp 12) rfl w.heap.size 0 rfl [.bool true, .int .i64 fi, .bool true] _ X6.out.all Try.underlying26 rfl I3.out ?_)
            | ((with_reducible refine load_gate (26) (14) ?_); refine wpList_load_w (by rfl) 26 (.tmp 14) rfl NY 0 rfl [.bool true, .int .i64 fi, .bool true] _ Y7.out.all Try.underlying26 rfl I3.out ?_)
            | ((with_reducible refine load_gate (26) (16) ?_); refine wpList_load_w (by rfl) 26 (.tmp 16) rfl NZ 0 rfl [.bool true, .int .i64 zf, .bool zw] _ Z7.out.all Try.underlying26 rfl I3.out ?_)
            | (go_at_call 10; refine (P1.out _).mono ?_; rintro e w7 ⟨rfl, u7⟩; have X7 := Lib.hid (X6.out.step u7); have Y7 := Lib.hid (Y6.out.step u7); have Z7 := Lib.hid (Z6.out.step u7); clear u7 P1)
            | (go_at_call 10; refine (P2.out _).mono ?_; rintro e w8 ⟨rfl, u8⟩; have Z8 := Lib.hid (Z7.out.step u8); have zc0 := Z8.out.cell (i := 0) rfl; clear u8))
          go_ret
          exact ⟨rfl, Z8.out.bel⟩
        · have U2 := Lib.hid (fun W => unpack_calls 1 v HV.out W)
          rw [hu] at U2
          have P2 : Hid (∀ W, Calls Try.prog 10 #[.int .i64 1, .agg #[.bool false, .int .i64 0, .bool false]] W fun e w' => e = .returned (.int .u64 0) ∧ Below W.heap.size W w') := by
            intro W
            have h := pack_calls 1 false 0 false W
            rw [show ((packN 1 false 0 false : Nat) : Int) = 0 by rfl] at h
            exact h
          have hz : ((v : Int) == 0) = false := beq_false_of_ne (by omega)
          have hz2 : ((0 : Int) == (v : Int)) = false := beq_false_of_ne (by omega)
          clear hu HU2 HV hv0
          generalize (v : Int) = vi at *
          go_upto_region 15 with (go_at_call 8; refine (UC.out _).mono ?_; rintro e w2 ⟨rfl, u2⟩; have X2 := Lib.hid (X1.out.step u2); clear u2)
          have Y3 := Lib.hid (Own.new X2.out.bel #[.bool true, .int .i64 fi, .bool true] 26)
          have X3 := Lib.hid (X2.out.alloc (.cells #[.bool true, .int .i64 fi, .bool true] 26))
          clear X1 X2 UC x0 x1 x2 g0 g1 g2
          generalize w2.alloc _ = w3 at *
          generalize w2.heap.size = NY at *
          go_upto_region 16 with (go_at_call 8; refine (U2.out _).mono ?_; rintro e w4 ⟨rfl, u4⟩; have X4 := Lib.hid (X3.out.step u4); have Y4 := Lib.hid (Y3.out.step u4); clear u4)
          have Z5 := Lib.hid (Own.new X4.out.bel #[.bool false, .int .i64 0, .bool false] 26)
          have X5 := Lib.hid (X4.out.alloc (.cells #[.bool false, .int .i64 0, .bool false] 26))
          have Y5 := Lib.hid (Y4.out.alloc (.cells #[.bool false, .int .i64 0, .bool false] 26))
          clear X3 Y3 X4 Y4 U2
          generalize w4.alloc _ = w5 at *
          generalize w4.heap.size = NZ at *
          go_wp2_with (first
            | (go_at_call 9; refine (awake_calls _).mono ?_; rintro e w6 ⟨rfl, u6⟩; have X6 := Lib.hid (X5.out.step u6); have Y6 := Lib.hid (Y5.out.step u6); have Z6 := Lib.hid (Z5.out.step u6); clear u6)
            | ((with_reducible refine load_gate (26) (12) ?_); first | refine wpList_load_w (by rfl) 26 (.tmp 12) rfl w.heap.size 0 rfl [.bool true, .int .i64 fi, .bool true] _ X7.out.all Try.underlying26 rfl I3.out ?_ | refine wpList_load_w (by rfl) 26 (.tmp 12) rfl w.heap.size 0 rfl [.bool true, .int .i64 fi, .bool true] _ X6.out.all Try.underlying26 rfl I3.out ?_)
            | ((with_reducible refine load_gate (26) (14) ?_); refine wpList_load_w (by rfl) 26 (.tmp 14) rfl NY 0 rfl [.bool true, .int .i64 fi, .bool true] _ Y7.out.all Try.underlying26 rfl I3.out ?_)
            | ((with_reducible refine load_gate (26) (16) ?_); refine wpList_load_w (by rfl) 26 (.tmp 16) rfl NZ 0 rfl [.bool false, .int .i64 0, .bool false] _ Z7.out.all Try.underlying26 rfl I3.out ?_)
            | (go_at_call 10; refine (P1.out _).mono ?_; rintro e w7 ⟨rfl, u7⟩; have X7 := Lib.hid (X6.out.step u7); have Y7 := Lib.hid (Y6.out.step u7); have Z7 := Lib.hid (Z6.out.step u7); clear u7 P1)
            | (go_at_call 10; refine (P2.out _).mono ?_; rintro e w8 ⟨rfl, u8⟩; have Z8 := Lib.hid (Z7.out.step u8); have zc0 := Z8.out.cell (i := 0) rfl; clear u8))
          go_ret
          exact ⟨rfl, Z8.out.bel⟩
    · have HU2 := Lib.hid (un_cases 2 v)
      have PN := Lib.hid (packN_lt 2 true (fr : Int) xw)
      have UC := Lib.hid (fun W => unpack_calls 2 _ PN.out W)
      rw [UP.out] at UC
      have P1 := Lib.hid (fun W => pack_calls 2 true (fr : Int) xw W)
      have PW := Lib.hid PV.out
      clear PV PF PT UP PN HF HR HX FC
      generalize ((packN 2 true (fr : Int) xw : Nat) : Int) = pk at *
      generalize (fr : Int) = fi at *
      cases xw
      · have hpk : 9223372036854775808 + (65535 - fi) = pk := by
          have h := PW.out
          simp at h
          omega
        clear PW
        go_upto_region 14 with (fail)
        try simp only [hpk]
        clear hpk
        rcases HU2.out with ⟨hv0, hu⟩ | ⟨zf, zw, hv0, hp, hu⟩ | ⟨hv0, hu⟩
        · have U2 := Lib.hid (fun W => unpack_calls 2 v HV.out W)
          rw [hu] at U2
          have P2 : Hid (∀ W, Calls Try.prog 10 #[.int .i64 2, .agg #[.bool false, .int .i64 0, .bool false]] W fun e w' => e = .returned (.int .u64 (v : Int)) ∧ Below W.heap.size W w') := by
            intro W
            have h := pack_calls 2 false 0 false W
            rw [show ((packN 2 false 0 false : Nat) : Int) = (v : Int) by rw [hv0]; rfl] at h
            exact h
          have hz : ((v : Int) == 0) = true := beq_iff_eq.2 (by omega)
          clear hu HU2 HV hv0
          generalize (v : Int) = vi at *
          go_upto_region 15 with (go_at_call 8; refine (UC.out _).mono ?_; rintro e w2 ⟨rfl, u2⟩; have X2 := Lib.hid (X1.out.step u2); clear u2)
          have Y3 := Lib.hid (Own.new X2.out.bel #[.bool true, .int .i64 fi, .bool false] 26)
          have X3 := Lib.hid (X2.out.alloc (.cells #[.bool true, .int .i64 fi, .bool false] 26))
          clear X1 X2 UC x0 x1 x2 g0 g1 g2
          generalize w2.alloc _ = w3 at *
          generalize w2.heap.size = NY at *
          go_upto_region 16 with (go_at_call 8; refine (U2.out _).mono ?_; rintro e w4 ⟨rfl, u4⟩; have X4 := Lib.hid (X3.out.step u4); have Y4 := Lib.hid (Y3.out.step u4); clear u4)
          have Z5 := Lib.hid (Own.new X4.out.bel #[.bool false, .int .i64 0, .bool false] 26)
          have X5 := Lib.hid (X4.out.alloc (.cells #[.bool false, .int .i64 0, .bool false] 26))
          have Y5 := Lib.hid (Y4.out.alloc (.cells #[.bool false, .int .i64 0, .bool false] 26))
          clear X3 Y3 X4 Y4 U2
          generalize w4.alloc _ = w5 at *
          generalize w4.heap.size = NZ at *
          go_wp2_with (first
            | (go_at_call 9; refine (awake_calls _).mono ?_; rintro e w6 ⟨rfl, u6⟩; have X6 := Lib.hid (X5.out.step u6); have Y6 := Lib.hid (Y5.out.step u6); have Z6 := Lib.hid (Z5.out.step u6); clear u6)
            | ((with_reducible refine load_gate (26) (12) ?_); first | refine wpList_load_w (by rfl) 26 (.tmp 12) rfl w.heap.size 0 rfl [.bool true, .int .i64 fi, .bool false] _ X7.out.all Try.underlying26 rfl I3.out ?_ | refine wpList_load_w (by rfl) 26 (.tmp 12) rfl w.heap.size 0 rfl [.bool true, .int .i64 fi, .bool false] _ X6.out.all Try.underlying26 rfl I3.out ?_)
            | ((with_reducible refine load_gate (26) (14) ?_); refine wpList_load_w (by rfl) 26 (.tmp 14) rfl NY 0 rfl [.bool true, .int .i64 fi, .bool false] _ Y7.out.all Try.underlying26 rfl I3.out ?_)
            | ((with_reducible refine load_gate (26) (16) ?_); refine wpList_load_w (by rfl) 26 (.tmp 16) rfl NZ 0 rfl [.bool false, .int .i64 0, .bool false] _ Z7.out.all Try.underlying26 rfl I3.out ?_)
            | (go_at_call 10; refine (P1.out _).mono ?_; rintro e w7 ⟨rfl, u7⟩; have X7 := Lib.hid (X6.out.step u7); have Y7 := Lib.hid (Y6.out.step u7); have Z7 := Lib.hid (Z6.out.step u7); clear u7 P1)
            | (go_at_call 10; refine (P2.out _).mono ?_; rintro e w8 ⟨rfl, u8⟩; have Z8 := Lib.hid (Z7.out.step u8); have zc0 := Z8.out.cell (i := 0) rfl; clear u8))
          go_ret
          exact ⟨rfl, Z8.out.bel⟩
        · have U2 := Lib.hid (fun W => unpack_calls 2 v HV.out W)
          rw [hu] at U2
          have P2 : Hid (∀ W, Calls Try.prog 10 #[.int .i64 2, .agg #[.bool true, .int .i64 zf, .bool zw]] W fun e w' => e = .returned (.int .u64 (v : Int)) ∧ Below W.heap.size W w') := by
            intro W
            have h := pack_calls 2 true zf zw W
            rw [show ((packN 2 true zf zw : Nat) : Int) = (v : Int) by rw [← hp]] at h
            exact h
          have hz : ((v : Int) == 0) = false := beq_false_of_ne (by omega)
          clear hu HU2 HV hv0 hp
          generalize (v : Int) = vi at *
          go_upto_region 15 with (go_at_call 8; refine (UC.out _).mono ?_; rintro e w2 ⟨rfl, u2⟩; have X2 := Lib.hid (X1.out.step u2); clear u2)
          have Y3 := Lib.hid (Own.new X2.out.bel #[.bool true, .int .i64 fi, .bool false] 26)
          have X3 := Lib.hid (X2.out.alloc (.cells #[.bool true, .int .i64 fi, .bool false] 26))
          clear X1 X2 UC x0 x1 x2 g0 g1 g2
          generalize w2.alloc _ = w3 at *
          generalize w2.heap.size = NY at *
          go_upto_region 16 with (go_at_call 8; refine (U2.out _).mono ?_; rintro e w4 ⟨rfl, u4⟩; have X4 := Lib.hid (X3.out.step u4); have Y4 := Lib.hid (Y3.out.step u4); clear u4)
          have Z5 := Lib.hid (Own.new X4.out.bel #[.bool true, .int .i64 zf, .bool zw] 26)
          have X5 := Lib.hid (X4.out.alloc (.cells #[.bool true, .int .i64 zf, .bool zw] 26))
          have Y5 := Lib.hid (Y4.out.alloc (.cells #[.bool true, .int .i64 zf, .bool zw] 26))
          clear X3 Y3 X4 Y4 U2
          generalize w4.alloc _ = w5 at *
          generalize w4.heap.size = NZ at *
          go_wp2_with (first
            | (go_at_call 9; refine (awake_calls _).mono ?_; rintro e w6 ⟨rfl, u6⟩; have X6 := Lib.hid (X5.out.step u6); have Y6 := Lib.hid (Y5.out.step u6); have Z6 := Lib.hid (Z5.out.step u6); clear u6)
            | ((with_reducible refine load_gate (26) (12) ?_); first | refine wpList_load_w (by rfl) 26 (.tmp 12) rfl w.heap.size 0 rfl [.bool true, .int .i64 fi, .bool false] _ X7.out.all Try.underlying26 rfl I3.out ?_ | refine wpList_load_w (by rfl) 26 (.tmp 12) rfl w.heap.size 0 rfl [.bool true, .int .i64 fi, .bool false] _ X6.out.all Try.underlying26 rfl I3.out ?_)
            | ((with_reducible refine load_gate (26) (14) ?_); refine wpList_load_w (by rfl) 26 (.tmp 14) rfl NY 0 rfl [.bool true, .int .i64 fi, .bool false] _ Y7.out.all Try.underlying26 rfl I3.out ?_)
            | ((with_reducible refine load_gate (26) (16) ?_); refine wpList_load_w (by rfl) 26 (.tmp 16) rfl NZ 0 rfl [.bool true, .int .i64 zf, .bool zw] _ Z7.out.all Try.underlying26 rfl I3.out ?_)
            | (go_at_call 10; refine (P1.out _).mono ?_; rintro e w7 ⟨rfl, u7⟩; have X7 := Lib.hid (X6.out.step u7); have Y7 := Lib.hid (Y6.out.step u7); have Z7 := Lib.hid (Z6.out.step u7); clear u7 P1)
            | (go_at_call 10; refine (P2.out _).mono ?_; rintro e w8 ⟨rfl, u8⟩; have Z8 := Lib.hid (Z7.out.step u8); have zc0 := Z8.out.cell (i := 0) rfl; clear u8))
          go_ret
          exact ⟨rfl, Z8.out.bel⟩
        · have U2 := Lib.hid (fun W => unpack_calls 2 v HV.out W)
          rw [hu] at U2
          have P2 : Hid (∀ W, Calls Try.prog 10 #[.int .i64 2, .agg #[.bool false, .int .i64 0, .bool false]] W fun e w' => e = .returned (.int .u64 0) ∧ Below W.heap.size W w') := by
            intro W
            have h := pack_calls 2 false 0 false W
            rw [show ((packN 2 false 0 false : Nat) : Int) = 0 by rfl] at h
            exact h
          have hz : ((v : Int) == 0) = false := beq_false_of_ne (by omega)
          have hz2 : ((0 : Int) == (v : Int)) = false := beq_false_of_ne (by omega)
          clear hu HU2 HV hv0
          generalize (v : Int) = vi at *
          go_upto_region 15 with (go_at_call 8; refine (UC.out _).mono ?_; rintro e w2 ⟨rfl, u2⟩; have X2 := Lib.hid (X1.out.step u2); clear u2)
          have Y3 := Lib.hid (Own.new X2.out.bel #[.bool true, .int .i64 fi, .bool false] 26)
          have X3 := Lib.hid (X2.out.alloc (.cells #[.bool true, .int .i64 fi, .bool false] 26))
          clear X1 X2 UC x0 x1 x2 g0 g1 g2
          generalize w2.alloc _ = w3 at *
          generalize w2.heap.size = NY at *
          go_upto_region 16 with (go_at_call 8; refine (U2.out _).mono ?_; rintro e w4 ⟨rfl, u4⟩; have X4 := Lib.hid (X3.out.step u4); have Y4 := Lib.hid (Y3.out.step u4); clear u4)
          have Z5 := Lib.hid (Own.new X4.out.bel #[.bool false, .int .i64 0, .bool false] 26)
          have X5 := Lib.hid (X4.out.alloc (.cells #[.bool false, .int .i64 0, .bool false] 26))
          have Y5 := Lib.hid (Y4.out.alloc (.cells #[.bool false, .int .i64 0, .bool false] 26))
          clear X3 Y3 X4 Y4 U2
          generalize w4.alloc _ = w5 at *
          generalize w4.heap.size = NZ at *
          go_wp2_with (first
            | (go_at_call 9; refine (awake_calls _).mono ?_; rintro e w6 ⟨rfl, u6⟩; have X6 := Lib.hid (X5.out.step u6); have Y6 := Lib.hid (Y5.out.step u6); have Z6 := Lib.hid (Z5.out.step u6); clear u6)
            | ((with_reducible refine load_gate (26) (12) ?_); first | refine wpList_load_w (by rfl) 26 (.tmp 12) rfl w.heap.size 0 rfl [.bool true, .int .i64 fi, .bool false] _ X7.out.all Try.underlying26 rfl I3.out ?_ | refine wpList_load_w (by rfl) 26 (.tmp 12) rfl w.heap.size 0 rfl [.bool true, .int .i64 fi, .bool false] _ X6.out.all Try.underlying26 rfl I3.out ?_)
            | ((with_reducible refine load_gate (26) (14) ?_); refine wpList_load_w (by rfl) 26 (.tmp 14) rfl NY 0 rfl [.bool true, .int .i64 fi, .bool false] _ Y7.out.all Try.underlying26 rfl I3.out ?_)
            | ((with_reducible refine load_gate (26) (16) ?_); refine wpList_load_w (by rfl) 26 (.tmp 16) rfl NZ 0 rfl [.bool false, .int .i64 0, .bool false] _ Z7.out.all Try.underlying26 rfl I3.out ?_)
            | (go_at_call 10; refine (P1.out _).mono ?_; rintro e w7 ⟨rfl, u7⟩; have X7 := Lib.hid (X6.out.step u7); have Y7 := Lib.hid (Y6.out.step u7); have Z7 := Lib.hid (Z6.out.step u7); clear u7 P1)
            | (go_at_call 10; refine (P2.out _).mono ?_; rintro e w8 ⟨rfl, u8⟩; have Z8 := Lib.hid (Z7.out.step u8); have zc0 := Z8.out.cell (i := 0) rfl; clear u8))
          go_ret
          exact ⟨rfl, Z8.out.bel⟩
      · have hpk : 9223372036854775808 + (65535 - fi) + 4611686018427387904 = pk := by
          have h := PW.out
          simp at h
          omega
        clear PW
        go_upto_region 14 with (fail)
        try simp only [hpk]
        clear hpk
        rcases HU2.out with ⟨hv0, hu⟩ | ⟨zf, zw, hv0, hp, hu⟩ | ⟨hv0, hu⟩
        · have U2 := Lib.hid (fun W => unpack_calls 2 v HV.out W)
          rw [hu] at U2
          have P2 : Hid (∀ W, Calls Try.prog 10 #[.int .i64 2, .agg #[.bool false, .int .i64 0, .bool false]] W fun e w' => e = .returned (.int .u64 (v : Int)) ∧ Below W.heap.size W w') := by
            intro W
            have h := pack_calls 2 false 0 false W
            rw [show ((packN 2 false 0 false : Nat) : Int) = (v : Int) by rw [hv0]; rfl] at h
            exact h
          have hz : ((v : Int) == 0) = true := beq_iff_eq.2 (by omega)
          clear hu HU2 HV hv0
          generalize (v : Int) = vi at *
          go_upto_region 15 with (go_at_call 8; refine (UC.out _).mono ?_; rintro e w2 ⟨rfl, u2⟩; have X2 := Lib.hid (X1.out.step u2); clear u2)
          have Y3 := Lib.hid (Own.new X2.out.bel #[.bool true, .int .i64 fi, .bool true] 26)
          have X3 := Lib.hid (X2.out.alloc (.cells #[.bool true, .int .i64 fi, .bool true] 26))
          clear X1 X2 UC x0 x1 x2 g0 g1 g2
          generalize w2.alloc _ = w3 at *
          generalize w2.heap.size = NY at *
          go_upto_region 16 with (go_at_call 8; refine (U2.out _).mono ?_; rintro e w4 ⟨rfl, u4⟩; have X4 := Lib.hid (X3.out.step u4); have Y4 := Lib.hid (Y3.out.step u4); clear u4)
          have Z5 := Lib.hid (Own.new X4.out.bel #[.bool false, .int .i64 0, .bool false] 26)
          have X5 := Lib.hid (X4.out.alloc (.cells #[.bool false, .int .i64 0, .bool false] 26))
          have Y5 := Lib.hid (Y4.out.alloc (.cells #[.bool false, .int .i64 0, .bool false] 26))
          clear X3 Y3 X4 Y4 U2
          generalize w4.alloc _ = w5 at *
          generalize w4.heap.size = NZ at *
          go_wp2_with (first
            | (go_at_call 9; refine (awake_calls _).mono ?_; rintro e w6 ⟨rfl, u6⟩; have X6 := Lib.hid (X5.out.step u6); have Y6 := Lib.hid (Y5.out.step u6); have Z6 := Lib.hid (Z5.out.step u6); clear u6)
            | ((with_reducible refine load_gate (26) (12) ?_); first | refine wpList_load_w (by rfl) 26 (.tmp 12) rfl w.heap.size 0 rfl [.bool true, .int .i64 fi, .bool true] _ X7.out.all Try.underlying26 rfl I3.out ?_ | refine wpList_load_w (by rfl) 26 (.tmp 12) rfl w.heap.size 0 rfl [.bool true, .int .i64 fi, .bool true] _ X6.out.all Try.underlying26 rfl I3.out ?_)
            | ((with_reducible refine load_gate (26) (14) ?_); refine wpList_load_w (by rfl) 26 (.tmp 14) rfl NY 0 rfl [.bool true, .int .i64 fi, .bool true] _ Y7.out.all Try.underlying26 rfl I3.out ?_)
            | ((with_reducible refine load_gate (26) (16) ?_); refine wpList_load_w (by rfl) 26 (.tmp 16) rfl NZ 0 rfl [.bool false, .int .i64 0, .bool false] _ Z7.out.all Try.underlying26 rfl I3.out ?_)
            | (go_at_call 10; refine (P1.out _).mono ?_; rintro e w7 ⟨rfl, u7⟩; have X7 := Lib.hid (X6.out.step u7); have Y7 := Lib.hid (Y6.out.step u7); have Z7 := Lib.hid (Z6.out.step u7); clear u7 P1)
            | (go_at_call 10; refine (P2.out _).mono ?_; rintro e w8 ⟨rfl, u8⟩; have Z8 := Lib.hid (Z7.out.step u8); have zc0 := Z8.out.cell (i := 0) rfl; clear u8))
          go_ret
          exact ⟨rfl, Z8.out.bel⟩
        · have U2 := Lib.hid (fun W => unpack_calls 2 v HV.out W)
          rw [hu] at U2
          have P2 : Hid (∀ W, Calls Try.prog 10 #[.int .i64 2, .agg #[.bool true, .int .i64 zf, .bool zw]] W fun e w' => e = .returned (.int .u64 (v : Int)) ∧ Below W.heap.size W w') := by
            intro W
            have h := pack_calls 2 true zf zw W
            rw [show ((packN 2 true zf zw : Nat) : Int) = (v : Int) by rw [← hp]] at h
            exact h
          have hz : ((v : Int) == 0) = false := beq_false_of_ne (by omega)
          clear hu HU2 HV hv0 hp
          generalize (v : Int) = vi at *
          go_upto_region 15 with (go_at_call 8; refine (UC.out _).mono ?_; rintro e w2 ⟨rfl, u2⟩; have X2 := Lib.hid (X1.out.step u2); clear u2)
          have Y3 := Lib.hid (Own.new X2.out.bel #[.bool true, .int .i64 fi, .bool true] 26)
          have X3 := Lib.hid (X2.out.alloc (.cells #[.bool true, .int .i64 fi, .bool true] 26))
          clear X1 X2 UC x0 x1 x2 g0 g1 g2
          generalize w2.alloc _ = w3 at *
          generalize w2.heap.size = NY at *
          go_upto_region 16 with (go_at_call 8; refine (U2.out _).mono ?_; rintro e w4 ⟨rfl, u4⟩; have X4 := Lib.hid (X3.out.step u4); have Y4 := Lib.hid (Y3.out.step u4); clear u4)
          have Z5 := Lib.hid (Own.new X4.out.bel #[.bool true, .int .i64 zf, .bool zw] 26)
          have X5 := Lib.hid (X4.out.alloc (.cells #[.bool true, .int .i64 zf, .bool zw] 26))
          have Y5 := Lib.hid (Y4.out.alloc (.cells #[.bool true, .int .i64 zf, .bool zw] 26))
          clear X3 Y3 X4 Y4 U2
          generalize w4.alloc _ = w5 at *
          generalize w4.heap.size = NZ at *
          go_wp2_with (first
            | (go_at_call 9; refine (awake_calls _).mono ?_; rintro e w6 ⟨rfl, u6⟩; have X6 := Lib.hid (X5.out.step u6); have Y6 := Lib.hid (Y5.out.step u6); have Z6 := Lib.hid (Z5.out.step u6); clear u6)
            | ((with_reducible refine load_gate (26) (12) ?_); first | refine wpList_load_w (by rfl) 26 (.tmp 12) rfl w.heap.size 0 rfl [.bool true, .int .i64 fi, .bool true] _ X7.out.all Try.underlying26 rfl I3.out ?_ | refine wpList_load_w (by rfl) 26 (.tmp 12) rfl w.heap.size 0 rfl [.bool true, .int .i64 fi, .bool true] _ X6.out.all Try.underlying26 rfl I3.out ?_)
            | ((with_reducible refine load_gate (26) (14) ?_); refine wpList_load_w (by rfl) 26 (.tmp 14) rfl NY 0 rfl [.bool true, .int .i64 fi, .bool true] _ Y7.out.all Try.underlying26 rfl I3.out ?_)
            | ((with_reducible refine load_gate (26) (16) ?_); refine wpList_load_w (by rfl) 26 (.tmp 16) rfl NZ 0 rfl [.bool true, .int .i64 zf, .bool zw] _ Z7.out.all Try.underlying26 rfl I3.out ?_)
            | (go_at_call 10; refine (P1.out _).mono ?_; rintro e w7 ⟨rfl, u7⟩; have X7 := Lib.hid (X6.out.step u7); have Y7 := Lib.hid (Y6.out.step u7); have Z7 := Lib.hid (Z6.out.step u7); clear u7 P1)
            | (go_at_call 10; refine (P2.out _).mono ?_; rintro e w8 ⟨rfl, u8⟩; have Z8 := Lib.hid (Z7.out.step u8); have zc0 := Z8.out.cell (i := 0) rfl; clear u8))
          go_ret
          exact ⟨rfl, Z8.out.bel⟩
        · have U2 := Lib.hid (fun W => unpack_calls 2 v HV.out W)
          rw [hu] at U2
          have P2 : Hid (∀ W, Calls Try.prog 10 #[.int .i64 2, .agg #[.bool false, .int .i64 0, .bool false]] W fun e w' => e = .returned (.int .u64 0) ∧ Below W.heap.size W w') := by
            intro W
            have h := pack_calls 2 false 0 false W
            rw [show ((packN 2 false 0 false : Nat) : Int) = 0 by rfl] at h
            exact h
          have hz : ((v : Int) == 0) = false := beq_false_of_ne (by omega)
          have hz2 : ((0 : Int) == (v : Int)) = false := beq_false_of_ne (by omega)
          clear hu HU2 HV hv0
          generalize (v : Int) = vi at *
          go_upto_region 15 with (go_at_call 8; refine (UC.out _).mono ?_; rintro e w2 ⟨rfl, u2⟩; have X2 := Lib.hid (X1.out.step u2); clear u2)
          have Y3 := Lib.hid (Own.new X2.out.bel #[.bool true, .int .i64 fi, .bool true] 26)
          have X3 := Lib.hid (X2.out.alloc (.cells #[.bool true, .int .i64 fi, .bool true] 26))
          clear X1 X2 UC x0 x1 x2 g0 g1 g2
          generalize w2.alloc _ = w3 at *
          generalize w2.heap.size = NY at *
          go_upto_region 16 with (go_at_call 8; refine (U2.out _).mono ?_; rintro e w4 ⟨rfl, u4⟩; have X4 := Lib.hid (X3.out.step u4); have Y4 := Lib.hid (Y3.out.step u4); clear u4)
          have Z5 := Lib.hid (Own.new X4.out.bel #[.bool false, .int .i64 0, .bool false] 26)
          have X5 := Lib.hid (X4.out.alloc (.cells #[.bool false, .int .i64 0, .bool false] 26))
          have Y5 := Lib.hid (Y4.out.alloc (.cells #[.bool false, .int .i64 0, .bool false] 26))
          clear X3 Y3 X4 Y4 U2
          generalize w4.alloc _ = w5 at *
          generalize w4.heap.size = NZ at *
          go_wp2_with (first
            | (go_at_call 9; refine (awake_calls _).mono ?_; rintro e w6 ⟨rfl, u6⟩; have X6 := Lib.hid (X5.out.step u6); have Y6 := Lib.hid (Y5.out.step u6); have Z6 := Lib.hid (Z5.out.step u6); clear u6)
            | ((with_reducible refine load_gate (26) (12) ?_); first | refine wpList_load_w (by rfl) 26 (.tmp 12) rfl w.heap.size 0 rfl [.bool true, .int .i64 fi, .bool true] _ X7.out.all Try.underlying26 rfl I3.out ?_ | refine wpList_load_w (by rfl) 26 (.tmp 12) rfl w.heap.size 0 rfl [.bool true, .int .i64 fi, .bool true] _ X6.out.all Try.underlying26 rfl I3.out ?_)
            | ((with_reducible refine load_gate (26) (14) ?_); refine wpList_load_w (by rfl) 26 (.tmp 14) rfl NY 0 rfl [.bool true, .int .i64 fi, .bool true] _ Y7.out.all Try.underlying26 rfl I3.out ?_)
            | ((with_reducible refine load_gate (26) (16) ?_); refine wpList_load_w (by rfl) 26 (.tmp 16) rfl NZ 0 rfl [.bool false, .int .i64 0, .bool false] _ Z7.out.all Try.underlying26 rfl I3.out ?_)
            | (go_at_call 10; refine (P1.out _).mono ?_; rintro e w7 ⟨rfl, u7⟩; have X7 := Lib.hid (X6.out.step u7); have Y7 := Lib.hid (Y6.out.step u7); have Z7 := Lib.hid (Z6.out.step u7); clear u7 P1)
            | (go_at_call 10; refine (P2.out _).mono ?_; rintro e w8 ⟨rfl, u8⟩; have Z8 := Lib.hid (Z7.out.step u8); have zc0 := Z8.out.cell (i := 0) rfl; clear u8))
          go_ret
          exact ⟨rfl, Z8.out.bel⟩
  · have HE := fun W => eql_ent (a := false) (c := false) (b := 0) (wf_small (by omega)) W
    have HU2 := Lib.hid (un_cases f v)
    have UC := Lib.hid (fun W => unpack_calls f 0 (by decide) W)
    rw [un_zero] at UC
    have P1 : Hid (∀ W, Calls Try.prog 10 #[.int .i64 f, .agg #[.bool false, .int .i64 0, .bool false]] W fun e w' => e = .returned (.int .u64 0) ∧ Below W.heap.size W w') := fun W => pack_calls f false 0 false W
    have X0 := Lib.hid (((X1.out.set 0 (.bool false)).set 1 (.int .i64 0)).set 2 (.bool false))
    clear PV PF PT UP HF HR HX FC
    generalize (fr : Int) = fi at *
    go_upto_region 14 with (fail)
    clear X1
    generalize World.setCell _ _ _ = wz at *
    have X1 := Lib.hid X0.out
    simp only [List.set_cons_zero, List.set_cons_succ] at X1
    clear X0
    rcases HU2.out with ⟨hv0, hu⟩ | ⟨zf, zw, hv0, hp, hu⟩ | ⟨hv0, hu⟩
    · have U2 := Lib.hid (fun W => unpack_calls f v HV.out W)
      rw [hu] at U2
      have P2 : Hid (∀ W, Calls Try.prog 10 #[.int .i64 f, .agg #[.bool false, .int .i64 0, .bool false]] W fun e w' => e = .returned (.int .u64 (v : Int)) ∧ Below W.heap.size W w') := by
        intro W
        have h := pack_calls f false 0 false W
        rw [show ((packN f false 0 false : Nat) : Int) = (v : Int) by rw [hv0]; rfl] at h
        exact h
      have hz : ((v : Int) == 0) = true := beq_iff_eq.2 (by omega)
      clear hu HU2 HV hv0
      generalize (v : Int) = vi at *
      go_upto_region 15 with (go_at_call 8; refine (UC.out _).mono ?_; rintro e w2 ⟨rfl, u2⟩; have X2 := Lib.hid (X1.out.step u2); clear u2)
      have Y3 := Lib.hid (Own.new X2.out.bel #[.bool false, .int .i64 0, .bool false] 26)
      have X3 := Lib.hid (X2.out.alloc (.cells #[.bool false, .int .i64 0, .bool false] 26))
      clear X1 X2 UC x0 x1 x2 g0 g1 g2
      generalize w2.alloc _ = w3 at *
      generalize w2.heap.size = NY at *
      go_upto_region 16 with (go_at_call 8; refine (U2.out _).mono ?_; rintro e w4 ⟨rfl, u4⟩; have X4 := Lib.hid (X3.out.step u4); have Y4 := Lib.hid (Y3.out.step u4); clear u4)
      have Z5 := Lib.hid (Own.new X4.out.bel #[.bool false, .int .i64 0, .bool false] 26)
      have X5 := Lib.hid (X4.out.alloc (.cells #[.bool false, .int .i64 0, .bool false] 26))
      have Y5 := Lib.hid (Y4.out.alloc (.cells #[.bool false, .int .i64 0, .bool false] 26))
      clear X3 Y3 X4 Y4 U2
      generalize w4.alloc _ = w5 at *
      generalize w4.heap.size = NZ at *
      go_wp2_with (first
        | (go_at_call 9; refine (awake_calls _).mono ?_; rintro e w6 ⟨rfl, u6⟩; have X6 := Lib.hid (X5.out.step u6); have Y6 := Lib.hid (Y5.out.step u6); have Z6 := Lib.hid (Z5.out.step u6); clear u6)
        | ((with_reducible refine load_gate (26) (12) ?_); first | refine wpList_load_w (by rfl) 26 (.tmp 12) rfl w.heap.size 0 rfl [.bool false, .int .i64 0, .bool false] _ X7.out.all Try.underlying26 rfl I3.out ?_ | refine wpList_load_w (by rfl) 26 (.tmp 12) rfl w.heap.size 0 rfl [.bool false, .int .i64 0, .bool false] _ X6.out.all Try.underlying26 rfl I3.out ?_)
        | ((with_reducible refine load_gate (26) (14) ?_); refine wpList_load_w (by rfl) 26 (.tmp 14) rfl NY 0 rfl [.bool false, .int .i64 0, .bool false] _ Y7.out.all Try.underlying26 rfl I3.out ?_)
        | ((with_reducible refine load_gate (26) (16) ?_); refine wpList_load_w (by rfl) 26 (.tmp 16) rfl NZ 0 rfl [.bool false, .int .i64 0, .bool false] _ Z7.out.all Try.underlying26 rfl I3.out ?_)
        | (go_at_call 10; refine (P1.out _).mono ?_; rintro e w7 ⟨rfl, u7⟩; have X7 := Lib.hid (X6.out.step u7); have Y7 := Lib.hid (Y6.out.step u7); have Z7 := Lib.hid (Z6.out.step u7); clear u7 P1)
        | (go_at_call 10; refine (P2.out _).mono ?_; rintro e w8 ⟨rfl, u8⟩; have Z8 := Lib.hid (Z7.out.step u8); have zc0 := Z8.out.cell (i := 0) rfl; clear u8))
      go_ret
      exact ⟨rfl, Z8.out.bel⟩
    · have U2 := Lib.hid (fun W => unpack_calls f v HV.out W)
      rw [hu] at U2
      have P2 : Hid (∀ W, Calls Try.prog 10 #[.int .i64 f, .agg #[.bool true, .int .i64 zf, .bool zw]] W fun e w' => e = .returned (.int .u64 (v : Int)) ∧ Below W.heap.size W w') := by
        intro W
        have h := pack_calls f true zf zw W
        rw [show ((packN f true zf zw : Nat) : Int) = (v : Int) by rw [← hp]] at h
        exact h
      have hz : ((v : Int) == 0) = false := beq_false_of_ne (by omega)
      clear hu HU2 HV hv0 hp
      generalize (v : Int) = vi at *
      go_upto_region 15 with (go_at_call 8; refine (UC.out _).mono ?_; rintro e w2 ⟨rfl, u2⟩; have X2 := Lib.hid (X1.out.step u2); clear u2)
      have Y3 := Lib.hid (Own.new X2.out.bel #[.bool false, .int .i64 0, .bool false] 26)
      have X3 := Lib.hid (X2.out.alloc (.cells #[.bool false, .int .i64 0, .bool false] 26))
      clear X1 X2 UC x0 x1 x2 g0 g1 g2
      generalize w2.alloc _ = w3 at *
      generalize w2.heap.size = NY at *
      go_upto_region 16 with (go_at_call 8; refine (U2.out _).mono ?_; rintro e w4 ⟨rfl, u4⟩; have X4 := Lib.hid (X3.out.step u4); have Y4 := Lib.hid (Y3.out.step u4); clear u4)
      have Z5 := Lib.hid (Own.new X4.out.bel #[.bool true, .int .i64 zf, .bool zw] 26)
      have X5 := Lib.hid (X4.out.alloc (.cells #[.bool true, .int .i64 zf, .bool zw] 26))
      have Y5 := Lib.hid (Y4.out.alloc (.cells #[.bool true, .int .i64 zf, .bool zw] 26))
      clear X3 Y3 X4 Y4 U2
      generalize w4.alloc _ = w5 at *
      generalize w4.heap.size = NZ at *
      go_wp2_with (first
        | (go_at_call 9; refine (awake_calls _).mono ?_; rintro e w6 ⟨rfl, u6⟩; have X6 := Lib.hid (X5.out.step u6); have Y6 := Lib.hid (Y5.out.step u6); have Z6 := Lib.hid (Z5.out.step u6); clear u6)
        | ((with_reducible refine load_gate (26) (12) ?_); first | refine wpList_load_w (by rfl) 26 (.tmp 12) rfl w.heap.size 0 rfl [.bool false, .int .i64 0, .bool false] _ X7.out.all Try.underlying26 rfl I3.out ?_ | refine wpList_load_w (by rfl) 26 (.tmp 12) rfl w.heap.size 0 rfl [.bool false, .int .i64 0, .bool false] _ X6.out.all Try.underlying26 rfl I3.out ?_)
        | ((with_reducible refine load_gate (26) (14) ?_); refine wpList_load_w (by rfl) 26 (.tmp 14) rfl NY 0 rfl [.bool false, .int .i64 0, .bool false] _ Y7.out.all Try.underlying26 rfl I3.out ?_)
        | ((with_reducible refine load_gate (26) (16) ?_); refine wpList_load_w (by rfl) 26 (.tmp 16) rfl NZ 0 rfl [.bool true, .int .i64 zf, .bool zw] _ Z7.out.all Try.underlying26 rfl I3.out ?_)
        | (go_at_call 10; refine (P1.out _).mono ?_; rintro e w7 ⟨rfl, u7⟩; have X7 := Lib.hid (X6.out.step u7); have Y7 := Lib.hid (Y6.out.step u7); have Z7 := Lib.hid (Z6.out.step u7); clear u7 P1)
        | (go_at_call 10; refine (P2.out _).mono ?_; rintro e w8 ⟨rfl, u8⟩; have Z8 := Lib.hid (Z7.out.step u8); have zc0 := Z8.out.cell (i := 0) rfl; clear u8))
      go_ret
      exact ⟨rfl, Z8.out.bel⟩
    · have U2 := Lib.hid (fun W => unpack_calls f v HV.out W)
      rw [hu] at U2
      have P2 : Hid (∀ W, Calls Try.prog 10 #[.int .i64 f, .agg #[.bool false, .int .i64 0, .bool false]] W fun e w' => e = .returned (.int .u64 0) ∧ Below W.heap.size W w') := by
        intro W
        have h := pack_calls f false 0 false W
        rw [show ((packN f false 0 false : Nat) : Int) = 0 by rfl] at h
        exact h
      have hz : ((v : Int) == 0) = false := beq_false_of_ne (by omega)
      have hz2 : ((0 : Int) == (v : Int)) = false := beq_false_of_ne (by omega)
      clear hu HU2 HV hv0
      generalize (v : Int) = vi at *
      go_upto_region 15 with (go_at_call 8; refine (UC.out _).mono ?_; rintro e w2 ⟨rfl, u2⟩; have X2 := Lib.hid (X1.out.step u2); clear u2)
      have Y3 := Lib.hid (Own.new X2.out.bel #[.bool false, .int .i64 0, .bool false] 26)
      have X3 := Lib.hid (X2.out.alloc (.cells #[.bool false, .int .i64 0, .bool false] 26))
      clear X1 X2 UC x0 x1 x2 g0 g1 g2
      generalize w2.alloc _ = w3 at *
      generalize w2.heap.size = NY at *
      go_upto_region 16 with (go_at_call 8; refine (U2.out _).mono ?_; rintro e w4 ⟨rfl, u4⟩; have X4 := Lib.hid (X3.out.step u4); have Y4 := Lib.hid (Y3.out.step u4); clear u4)
      have Z5 := Lib.hid (Own.new X4.out.bel #[.bool false, .int .i64 0, .bool false] 26)
      have X5 := Lib.hid (X4.out.alloc (.cells #[.bool false, .int .i64 0, .bool false] 26))
      have Y5 := Lib.hid (Y4.out.alloc (.cells #[.bool false, .int .i64 0, .bool false] 26))
      clear X3 Y3 X4 Y4 U2
      generalize w4.alloc _ = w5 at *
      generalize w4.heap.size = NZ at *
      go_wp2_with (first
        | (go_at_call 9; refine (awake_calls _).mono ?_; rintro e w6 ⟨rfl, u6⟩; have X6 := Lib.hid (X5.out.step u6); have Y6 := Lib.hid (Y5.out.step u6); have Z6 := Lib.hid (Z5.out.step u6); clear u6)
        | ((with_reducible refine load_gate (26) (12) ?_); first | refine wpList_load_w (by rfl) 26 (.tmp 12) rfl w.heap.size 0 rfl [.bool false, .int .i64 0, .bool false] _ X7.out.all Try.underlying26 rfl I3.out ?_ | refine wpList_load_w (by rfl) 26 (.tmp 12) rfl w.heap.size 0 rfl [.bool false, .int .i64 0, .bool false] _ X6.out.all Try.underlying26 rfl I3.out ?_)
        | ((with_reducible refine load_gate (26) (14) ?_); refine wpList_load_w (by rfl) 26 (.tmp 14) rfl NY 0 rfl [.bool false, .int .i64 0, .bool false] _ Y7.out.all Try.underlying26 rfl I3.out ?_)
        | ((with_reducible refine load_gate (26) (16) ?_); refine wpList_load_w (by rfl) 26 (.tmp 16) rfl NZ 0 rfl [.bool false, .int .i64 0, .bool false] _ Z7.out.all Try.underlying26 rfl I3.out ?_)
        | (go_at_call 10; refine (P1.out _).mono ?_; rintro e w7 ⟨rfl, u7⟩; have X7 := Lib.hid (X6.out.step u7); have Y7 := Lib.hid (Y6.out.step u7); have Z7 := Lib.hid (Z6.out.step u7); clear u7 P1)
        | (go_at_call 10; refine (P2.out _).mono ?_; rintro e w8 ⟨rfl, u8⟩; have Z8 := Lib.hid (Z7.out.step u8); have zc0 := Z8.out.cell (i := 0) rfl; clear u8))
      go_ret
      exact ⟨rfl, Z8.out.bel⟩
end Go.Proofs.Yteenaokcfhlemaa.Walks
