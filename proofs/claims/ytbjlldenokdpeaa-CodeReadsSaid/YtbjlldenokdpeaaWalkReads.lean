/- Walks through the functions of the statement, and the statement over them: each contract says what the call answers and that nothing else changes. -/
import Derived.Test.YtbjlldenokdpeaaProg
import Derived.Test.YtbjlldenokdpeaaBits
import Derived.Test.YtbjlldenokdpeaaHeap
import Derived.Test.YtbjlldenokdpeaaAid
import Derived.Lib.Hide
import Derived.Test.YtbjlldenokdpeaaEql
import Derived.Test.YtbjlldenokdpeaaArr
import Derived.Test.YtbjlldenokdpeaaWalkPlain
import Derived.Test.YtbjlldenokdpeaaWalkRefR
import Derived.WalkKit
import Derived.WalkSpells
import Derived.WalkLawsBesides
import Derived.Deep.QuietTactic
import Derived.BigQuiet
import Derived.Deep.RegionHeld3
import Derived.Deep.DeepCutAuto
import Derived.Deep.CutBlock
import Derived.Lib.SlBytesConst
namespace Go.Proofs.Ytbjlldenokdpeaa.Walks
set_option linter.unusedVariables false
set_option linter.unusedSimpArgs false
open Go.RowKit Go.Proofs.Ytbjlldenokdpeaa.Bits Go.Proofs.Ytbjlldenokdpeaa.Heap Go.Proofs.Ytbjlldenokdpeaa.Aid Go.Proofs.Ytbjlldenokdpeaa.Arr Go.Proofs.Ytbjlldenokdpeaa.Eql

theorem uN_i16 {n : Int} (hn : -32768 ≤ n ∧ n ≤ 32767) : IntKind.i16.wrap ((uN n : Nat) : Int) = n := by
  simp [IntKind.wrap, IntKind.signed, IntKind.bits, uN]
  omega
/-- Of a right instruction's word: the instruction. -/
theorem dec_enc {c a b d : Nat} {n : Int} (h : rightB c a b d n = true) (hn : -32768 ≤ n ∧ n ≤ 32767) :
    dC (wordF c a b d n) = c ∧ dA (wordF c a b d n) = a ∧ dB (wordF c a b d n) = b ∧ dD (wordF c a b d n) = d ∧ dN (wordF c a b d n) = n := by
  have l1 := rightB_lt h
  have u1 : uN n < 65536 := by unfold uN; omega
  have r1 := of_decide_eq_true h
  have k1 : (if fC (c : Int) then d else uN n) < 65536 := by split <;> omega
  have e1 : dC (wordF c a b d n) = c := by
    unfold dC wordF wordN
    generalize (if fC (c : Int) then d else uN n) = x at *
    omega
  have e2 : dA (wordF c a b d n) = a := by
    unfold dA wordF wordN
    generalize (if fC (c : Int) then d else uN n) = x at *
    omega
  have e3 : dB (wordF c a b d n) = b := by
    unfold dB wordF wordN
    generalize (if fC (c : Int) then d else uN n) = x at *
    omega
  refine ⟨e1, e2, e3, ?_, ?_⟩
  · unfold dD
    rw [e1]
    cases hf : fC (c : Int) with
    | true =>
      rw [if_pos rfl]
      unfold wordF wordN
      rw [hf, if_pos rfl]
      omega
    | false =>
      rw [if_neg (by simp)]
      have a1 := of_decide_eq_true r1.2.2.2.1
      rw [hf] at a1
      simp only [Bool.false_eq_true, false_and, or_false] at a1
      omega
  · unfold dN
    rw [e1]
    cases hf : fC (c : Int) with
    | true =>
      rw [if_pos rfl]
      have hr := of_decide_eq_true hf
      have hN : ¬ fN (c : Int) = true := fun h => by have := of_decide_eq_true h; omega
      exact (r1.2.2.2.2.1.resolve_left hN).symm
    | false =>
      rw [if_neg (by simp)]
      have e : wordF c a b d n / 2 ^ 0 % 2 ^ 16 = uN n := by
        unfold wordF wordN
        rw [hf, if_neg (by simp)]
        omega
      rw [e, uN_i16 hn]
theorem decOk_enc {c a b d : Nat} {n : Int} (h : rightB c a b d n = true) (hn : -32768 ≤ n ∧ n ≤ 32767) : decOk (wordF c a b d n) = true := by
  obtain ⟨e1, e2, e3, e4, e5⟩ := dec_enc h hn
  unfold decOk
  rw [e1, e2, e3, e4, e5, h, encW_right h]
  simp
theorem decCells_enc {c a b d : Nat} {n : Int} (h : rightB c a b d n = true) (hn : -32768 ≤ n ∧ n ≤ 32767) : decCells (wordF c a b d n) = [.int .u8 c, .int .u8 a, .int .u8 b, .int .u8 d, .int .i16 n] := by
  obtain ⟨e1, e2, e3, e4, e5⟩ := dec_enc h hn
  unfold decCells
  rw [decOk_enc h hn, if_pos rfl, e1, e2, e3, e4, e5]
theorem wordF_lt {c a b d : Nat} {n : Int} (h : rightB c a b d n = true) : wordF c a b d n < 2 ^ 32 := by
  have l1 := rightB_lt h
  have u1 : uN n < 65536 := by unfold uN; omega
  have k1 : (if fC (c : Int) then d else uN n) < 65536 := by split <;> omega
  unfold wordF wordN
  generalize (if fC (c : Int) then d else uN n) = x at *
  omega
theorem keepT {w3 wd w1 w2 : World} {xs : List Value} {tx : TypeId} {k : Nat} {v : Value} {x0 x1 x2 x3 x4 : Value} {t : TypeId} (hU : Inv w3 xs tx wd) (hk : k < 3) (hx : xs[k]? = some v)
    (hb : Below w1.heap.size w1 w2) (h : Inv wd [x0, x1, x2, x3, x4] t w1) :
    Inv wd [x0, x1, x2, x3, x4] t w2 ∧ w2.cell? ⟨wd.heap.size, 0, none⟩ = some x0 ∧ w2.cell? ⟨wd.heap.size, 1, none⟩ = some x1 ∧ w2.cell? ⟨wd.heap.size, 2, none⟩ = some x2 ∧ w2.cell? ⟨wd.heap.size, 3, none⟩ = some x3 ∧ w2.cell? ⟨wd.heap.size, 4, none⟩ = some x4 ∧
      w2.cell? ⟨w3.heap.size, k, none⟩ = some v :=
  let q := h.step hb
  ⟨q, q.k.cellAt (i := 0) rfl, q.k.cellAt (i := 1) rfl, q.k.cellAt (i := 2) rfl, q.k.cellAt (i := 3) rfl, q.k.cellAt (i := 4) rfl, (hU.step q.b).k.cellAt hx⟩
/-- The post of a panic does not hang on the frame: said once. -/
theorem quiet_post {P : Program} {md : Region.Mode} {ops : Array Oper} {Q : Exit → Act → World → Prop} {S : World → Prop} {f : Nat} {l : Array Bool} {a : Act} {w : World}
    (h0 : ∀ c (a : Act) (d : Option Tmp) (v : Value) (w : World), Q (.panic c) (a.put d v) w → Q (.panic c) a w)
    (h : (∀ c (a : Act) (d : Option Tmp) (v : Value) (w : World), Q (.panic c) (a.put d v) w → Q (.panic c) a w) → wpAnyH P md ops Q S f l a w) : wpAnyH P md ops Q S f l a w := h h0
set_option maxHeartbeats 4000000 in
theorem reads_walk (a0 : Int) (c1 : List Value) (a2 : Int) (w : World) (w0 : (Lit.int .u32 a0).wf = true) (f1 : Fits w (.seq (.int .u8) (.seq (.int .u8) (.seq (.int .u8) (.seq (.int .u8) (.seq (.int .i16) .nil))))) c1) (w2 : (Lit.int .u8 a2).wf = true) :
    Calls Try.prog 7 #[.int .u32 a0, .agg c1.toArray, .int .u8 a2] w fun e w' => e = .returned (.bool true) ∧ Below w.heap.size w w' := by
  obtain ⟨c, a, b, d, n, rfl, hc, ha, hb, hd, hn⟩ := fits_op f1
  obtain ⟨x0, rfl, hx0⟩ := wf_u32 w0
  obtain ⟨at_, rfl, hat⟩ := wf_u8 w2
  clear f1 w0 w2
  have HX := Lib.hid (near_calls c (c % 23) a b d n rfl)
  have RX := near_right (c % 23) a b d n (by omega)
  have BX := nearN_bounds (c % 23) hn
  have hc1 : c % 23 < 23 := by omega
  have hva := pickIf_lt (fA (c % 23 : Nat)) a
  have hvb := pickIf_lt (fB (c % 23 : Nat)) b
  have hvd := pickIf_lt (fC (c % 23 : Nat)) d
  generalize nearN (c % 23) n = xn at *
  generalize pickIf (fA (c % 23 : Nat)) a = xa at *
  generalize pickIf (fB (c % 23 : Nat)) b = xb at *
  generalize pickIf (fC (c % 23 : Nat)) d = xd at *
  generalize c % 23 = xc at *
  have HQ := Lib.hid refRight_calls
  have HEX : Hid (∀ w, Calls Try.prog 12 #[.agg #[.int .u8 xc, .int .u8 xa, .int .u8 xb, .int .u8 xd, .int .i16 xn]] w fun e w' => e = .returned (.tuple #[.int .u32 (wordF xc xa xb xd xn : Nat), .bool true]) ∧ Below w.heap.size w w') := fun w => by
    have h := encode_calls xc xa xb xd xn (by omega) (by omega) (by omega) (by omega) BX w
    rw [encW_right RX, RX] at h
    exact h
  have HDX : Hid (∀ w, Calls Try.prog 13 #[.int .u32 (wordF xc xa xb xd xn : Nat)] w fun e w' => e = .returned (.tuple #[.agg #[.int .u8 xc, .int .u8 xa, .int .u8 xb, .int .u8 xd, .int .i16 xn], .bool true]) ∧ Below w.heap.size w w') := fun w => by
    have h := decode_calls (wordF xc xa xb xd xn) (wordF_lt RX) w
    rw [decCells_enc RX BX, decOk_enc RX BX] at h
    exact h
  have hwx : wordF xc xa xb xd xn < 2 ^ 32 := wordF_lt RX
  generalize wordF xc xa xb xd xn = wx at *
  have I5 := Lib.hid size5
  go_enter Try.func7, Try.ntmps7
  go_upto_region 1 with (fail)
  have V1 : Hid (Inv w [.int .u8 c, .int .u8 a, .int .u8 b, .int .u8 d, .int .i16 n] 24 (w.alloc (.cells #[.int .u8 c, .int .u8 a, .int .u8 b, .int .u8 d, .int .i16 n] 24))) := Inv.new w _ _
  generalize w.alloc (.cells #[.int .u8 c, .int .u8 a, .int .u8 b, .int .u8 d, .int .i16 n] 24) = w1 at *
  go_wp2_with (refine wpList_load_mid rfl 24 (.tmp 4) rfl w.heap.size 0 rfl [.int .u8 c, .int .u8 a, .int .u8 b, .int .u8 d, .int .i16 n] _ (range_all V1.out.k) Try.underlying24 rfl (by simpa using I5.out) ?_)
  refine (HX.out _).mono ?_
  rintro e w2 ⟨rfl, hbe⟩
  have V2 := Lib.hid (V1.out.step hbe)
  clear hbe V1
  go_wp2_with fail
  refine (HEX.out _).mono ?_
  rintro e w3 ⟨rfl, hbe⟩
  have A3 := Lib.hid (V2.out.step hbe).b
  clear hbe V2
  have h32 : (at_ : Int) % 32 < 32 := by omega
  have h32' : 0 ≤ (at_ : Int) % 32 := by omega
  go_upto_region 3 with (fail)
  obtain ⟨x2, hx2, e2⟩ : ∃ x2 : Nat, x2 < 2 ^ 32 ∧ bits .xor .u32 (wx : Int) ((2 : Int) ^ (at_ % 32) % 4294967296) = (x2 : Int) := by
    refine ⟨wx ^^^ (2 ^ (at_ % 32) % 4294967296), Nat.xor_lt_two_pow hwx (by omega), ?_⟩
    have e : (2 : Int) ^ (at_ % 32) % 4294967296 = ((2 ^ (at_ % 32) % 4294967296 : Nat) : Int) := by rw [Int.natCast_emod, Int.natCast_pow]; rfl
    rw [e]
    exact bits_xor rfl hwx (by show _ < 2 ^ 32; omega)
  rw [e2]
  clear e2 h32 h32'
  have L1 : Hid (Inv w3 [.int .u32 x0, .int .u32 wx, .int .u32 x2] 30 (w3.alloc (.cells #[.int .u32 x0, .int .u32 wx, .int .u32 x2] 30))) := Inv.new w3 _ _
  generalize w3.alloc (.cells #[.int .u32 x0, .int .u32 wx, .int .u32 x2] 30) = w4 at *
  have HXS : Hid (∀ k : Nat, k < 3 → ∃ x : Nat, x < 2 ^ 32 ∧ [Value.int .u32 x0, .int .u32 wx, .int .u32 x2][k]? = some (.int .u32 x)) := fun k hk => by
    match k, hk with
    | 0, _ => exact ⟨x0, hx0, rfl⟩
    | 1, _ => exact ⟨wx, hwx, rfl⟩
    | 2, _ => exact ⟨x2, hx2, rfl⟩
  have HE0 : Hid (∀ w, (binOp .neq 24 (.agg #[.int .u8 0, .int .u8 0, .int .u8 0, .int .u8 0, .int .i16 0]) (.agg #[.int .u8 0, .int .u8 0, .int .u8 0, .int .u8 0, .int .i16 0])).run Try.prog w = .ok (.bool false) w) := fun w => by
    obtain ⟨e, _, h2, h3⟩ := eql_op (c := 0) (a := 0) (b := 0) (d := 0) (n := 0) (c' := 0) (a' := 0) (b' := 0) (d' := 0) (n' := 0) (by omega) (by omega) (by omega) (by omega) (by omega) (by omega) (by omega) (by omega) (by omega) (by omega)
    obtain rfl := h3.2 ⟨rfl, rfl, rfl, rfl, rfl⟩
    exact h2 w
  generalize hcells : [Value.int .u32 x0, .int .u32 wx, .int .u32 x2] = xs at *
  clear hcells
  go_wp2_with fail
  go_loopw [10] (fun i wr => ∃ k : Nat, k ≤ 3 ∧ i = .int .i64 k ∧ Inv w3 xs 30 wr) (fun i _ => 3 - (intOf i).toNat)
  case atStart => exact ⟨0, by omega, rfl, L1.out⟩
  case round =>
    obtain ⟨k, hk, rfl, hU⟩ := hrel
    have U := Lib.hid hU
    clear hU L1
    by_cases hk3 : k < 3
    · obtain ⟨x, hx32, hxk⟩ := HXS.out k hk3
      have hki : (k : Int) < 3 := by omega
      have hk0 : 0 ≤ (k : Int) := by omega
      have hck := U.out.k.cellAt hxk
      go_wp2_with fail
      refine (decode_calls x hx32 _).mono ?_
      rintro e wd ⟨rfl, hbe⟩
      have UD := Lib.hid (U.out.step hbe)
      clear hbe hck U
      have OK := Lib.hid (show decOk x = (rightB (dC x : Nat) (dA x : Nat) (dB x : Nat) (dD x : Nat) (dN x) && decide (encW (dC x) (dA x) (dB x) (dD x) (dN x) = x)) from rfl)
      cases hok : decOk x with
      | true =>
        have ec : decCells x = [.int .u8 (dC x : Nat), .int .u8 (dA x : Nat), .int .u8 (dB x : Nat), .int .u8 (dD x : Nat), .int .i16 (dN x)] := by unfold decCells; rw [hok]; rfl
        rw [ec]
        have o1 := OK.out
        rw [hok] at o1
        have o2 := Bool.and_eq_true_iff.1 o1.symm
        have o3 := of_decide_eq_true o2.2
        have l1 := rightB_lt o2.1
        have HQx : Hid (∀ w, Calls Try.prog 11 #[.int .u8 (dC x : Nat), .int .u8 (dA x : Nat), .int .u8 (dB x : Nat), .int .u8 (dD x : Nat), .int .i16 (dN x)] w fun e w' => e = .returned (.bool true) ∧ Below w.heap.size w w') := fun w => by
          have h := refRight_calls (dC x) (dA x) (dB x) (dD x) (dN x) w
          rw [o2.1] at h
          exact h
        have HWx : Hid (∀ w, Calls Try.prog 14 #[.int .u8 (dC x : Nat), .int .u8 (dA x : Nat), .int .u8 (dB x : Nat), .int .u8 (dD x : Nat), .int .i16 (dN x)] w fun e w' => e = .returned (.int .u32 (x : Nat)) ∧ Below w.heap.size w w') := fun w => by
          have h := refWord_calls (dC x) (dA x) (dB x) (dD x) (dN x) l1.1 l1.2.1 l1.2.2.1 l1.2.2.2 w
          rw [← encW_right o2.1, o3] at h
          exact h
        clear o1 o2 o3 l1 ec hok OK
        generalize dC x = yc at *
        generalize dA x = ya at *
        generalize dB x = yb at *
        generalize dD x = yd at *
        generalize dN x = yn at *
        go_upto_region 7 with (fail)
        have T1 : Hid (Inv wd [.int .u8 yc, .int .u8 ya, .int .u8 yb, .int .u8 yd, .int .i16 yn] 24 (wd.alloc (.cells #[.int .u8 yc, .int .u8 ya, .int .u8 yb, .int .u8 yd, .int .i16 yn] 24))) := Inv.new wd _ _
        generalize wd.alloc (.cells #[.int .u8 yc, .int .u8 ya, .int .u8 yb, .int .u8 yd, .int .i16 yn] 24) = w5 at *
        have UU := UD
        have hV := T1.out
        have UF : ∀ w', Inv wd [.int .u8 yc, .int .u8 ya, .int .u8 yb, .int .u8 yd, .int .i16 yn] 24 w' → Inv w3 xs 30 w' := fun w' h => UU.out.step h.b
        have hxx : (((x : Nat) : Int) != ((x : Nat) : Int)) = false := by simp
        have hS := keepT UU.out hk3 hxk (Below.refl _ _) T1.out
        have HH := UU.out
        refine wp_region_noPanic ?_
        refine wp_region_held_drew (S := fun w' => Inv wd [.int .u8 yc, .int .u8 ya, .int .u8 yb, .int .u8 yd, .int .i16 yn] 24 w' ∧ w'.cell? ⟨wd.heap.size, 0, none⟩ = some (.int .u8 yc) ∧ w'.cell? ⟨wd.heap.size, 1, none⟩ = some (.int .u8 ya) ∧ w'.cell? ⟨wd.heap.size, 2, none⟩ = some (.int .u8 yb) ∧ w'.cell? ⟨wd.heap.size, 3, none⟩ = some (.int .u8 yd) ∧ w'.cell? ⟨wd.heap.size, 4, none⟩ = some (.int .i16 yn) ∧ w'.cell? ⟨w3.heap.size, k, none⟩ = some (.int .u32 x)) (by kernel_rfl) (keepT HH hk3 hxk (Below.refl _ _) (hV.drewN 1)) (fun hHeld => ?_)
        refine quiet_post (fun _ _ _ _ _ h => h) (fun hQ => ?_)
        have HQP := Lib.hid hQ
        clear hQ
        refine wpAnyH_take (i := 0) (oi := ⟨some 43, _, _, _, _, _⟩) (v := .bool true) rfl (by kernel_rfl) (by kernel_rfl) (by kernel_rfl) (fun c _ _ h => HQP.out c _ _ _ _ h) (Or.inl ⟨by rfl, fun w hSw => by dsimp only at hSw; go_split_ands; go_simp⟩) (by assumption) ?_
        simp only [Act.put, List.setIfInBounds_toArray, List.set_cons_zero, List.set_cons_succ]
        refine wpAnyH_take (i := 1) (oi := ⟨some 44, _, _, _, _, _⟩) (v := .bool true) rfl (by kernel_rfl) (by kernel_rfl) (by kernel_rfl) (fun c _ _ h => HQP.out c _ _ _ _ h) (Or.inl ⟨by rfl, fun w hSw => by dsimp only at hSw; go_split_ands; go_simp⟩) (by assumption) ?_
        simp only [Act.put, List.setIfInBounds_toArray, List.set_cons_zero, List.set_cons_succ]
        refine wpAnyH_take (i := 2) (oi := ⟨some 45, _, _, _, _, _⟩) (v := .pointer (some ⟨wd.heap.size, 0, none⟩)) rfl (by kernel_rfl) (by kernel_rfl) (by kernel_rfl) (fun c _ _ h => HQP.out c _ _ _ _ h) (Or.inl ⟨by rfl, fun w hSw => by dsimp only at hSw; go_split_ands; go_simp⟩) (by assumption) ?_
        simp only [Act.put, List.setIfInBounds_toArray, List.set_cons_zero, List.set_cons_succ]
        refine wpAnyH_take (i := 3) (oi := ⟨some 46, _, _, _, _, _⟩) (v := .int .u8 yc) rfl (by kernel_rfl) (by kernel_rfl) (by kernel_rfl) (fun c _ _ h => HQP.out c _ _ _ _ h) (Or.inl ⟨by rfl, fun w hSw => by dsimp only at hSw; go_split_ands; go_simp⟩) (by assumption) ?_
        simp only [Act.put, List.setIfInBounds_toArray, List.set_cons_zero, List.set_cons_succ]
        refine wpAnyH_take (i := 4) (oi := ⟨some 47, _, _, _, _, _⟩) (v := .pointer (some ⟨wd.heap.size, 1, none⟩)) rfl (by kernel_rfl) (by kernel_rfl) (by kernel_rfl) (fun c _ _ h => HQP.out c _ _ _ _ h) (Or.inl ⟨by rfl, fun w hSw => by dsimp only at hSw; go_split_ands; go_simp⟩) (by assumption) ?_
        simp only [Act.put, List.setIfInBounds_toArray, List.set_cons_zero, List.set_cons_succ]
        refine wpAnyH_take (i := 5) (oi := ⟨some 48, _, _, _, _, _⟩) (v := .int .u8 ya) rfl (by kernel_rfl) (by kernel_rfl) (by kernel_rfl) (fun c _ _ h => HQP.out c _ _ _ _ h) (Or.inl ⟨by rfl, fun w hSw => by dsimp only at hSw; go_split_ands; go_simp⟩) (by assumption) ?_
        simp only [Act.put, List.setIfInBounds_toArray, List.set_cons_zero, List.set_cons_succ]
        refine wpAnyH_take (i := 6) (oi := ⟨some 49, _, _, _, _, _⟩) (v := .pointer (some ⟨wd.heap.size, 2, none⟩)) rfl (by kernel_rfl) (by kernel_rfl) (by kernel_rfl) (fun c _ _ h => HQP.out c _ _ _ _ h) (Or.inl ⟨by rfl, fun w hSw => by dsimp only at hSw; go_split_ands; go_simp⟩) (by assumption) ?_
        simp only [Act.put, List.setIfInBounds_toArray, List.set_cons_zero, List.set_cons_succ]
        refine wpAnyH_take (i := 7) (oi := ⟨some 50, _, _, _, _, _⟩) (v := .int .u8 yb) rfl (by kernel_rfl) (by kernel_rfl) (by kernel_rfl) (fun c _ _ h => HQP.out c _ _ _ _ h) (Or.inl ⟨by rfl, fun w hSw => by dsimp only at hSw; go_split_ands; go_simp⟩) (by assumption) ?_
        simp only [Act.put, List.setIfInBounds_toArray, List.set_cons_zero, List.set_cons_succ]
        refine wpAnyH_take (i := 8) (oi := ⟨some 51, _, _, _, _, _⟩) (v := .pointer (some ⟨wd.heap.size, 3, none⟩)) rfl (by kernel_rfl) (by kernel_rfl) (by kernel_rfl) (fun c _ _ h => HQP.out c _ _ _ _ h) (Or.inl ⟨by rfl, fun w hSw => by dsimp only at hSw; go_split_ands; go_simp⟩) (by assumption) ?_
        simp only [Act.put, List.setIfInBounds_toArray, List.set_cons_zero, List.set_cons_succ]
        refine wpAnyH_take (i := 9) (oi := ⟨some 52, _, _, _, _, _⟩) (v := .int .u8 yd) rfl (by kernel_rfl) (by kernel_rfl) (by kernel_rfl) (fun c _ _ h => HQP.out c _ _ _ _ h) (Or.inl ⟨by rfl, fun w hSw => by dsimp only at hSw; go_split_ands; go_simp⟩) (by assumption) ?_
        simp only [Act.put, List.setIfInBounds_toArray, List.set_cons_zero, List.set_cons_succ]
        refine wpAnyH_take (i := 10) (oi := ⟨some 53, _, _, _, _, _⟩) (v := .pointer (some ⟨wd.heap.size, 4, none⟩)) rfl (by kernel_rfl) (by kernel_rfl) (by kernel_rfl) (fun c _ _ h => HQP.out c _ _ _ _ h) (Or.inl ⟨by rfl, fun w hSw => by dsimp only at hSw; go_split_ands; go_simp⟩) (by assumption) ?_
        simp only [Act.put, List.setIfInBounds_toArray, List.set_cons_zero, List.set_cons_succ]
        refine wpAnyH_take (i := 11) (oi := ⟨some 54, _, _, _, _, _⟩) (v := .int .i16 yn) rfl (by kernel_rfl) (by kernel_rfl) (by kernel_rfl) (fun c _ _ h => HQP.out c _ _ _ _ h) (Or.inl ⟨by rfl, fun w hSw => by dsimp only at hSw; go_split_ands; go_simp⟩) (by assumption) ?_
        simp only [Act.put, List.setIfInBounds_toArray, List.set_cons_zero, List.set_cons_succ]
        refine wpAnyH_ready (rs := [12]) (by kernel_rfl) (by simp) ?_
        refine AllReadyH.cons rfl (fun K hK => ?_) AllReadyH.nil
        go_simp
        go_at_call 11
        refine (HQx.out _).mono ?_
        rintro e w6 ⟨rfl, hb6⟩
        try dsimp only
        refine hK.out _ _ (keepT HH hk3 hxk hb6 hHeld.1) (fun hHeld => ?_)
        clear hK K
        try simp only [Act.put, List.setIfInBounds_toArray, List.set_cons_zero, List.set_cons_succ]
        refine wpAnyH_take (i := 13) (oi := ⟨some 56, _, _, _, _, _⟩) (v := .bool false) rfl (by kernel_rfl) (by kernel_rfl) (by kernel_rfl) (fun c _ _ h => HQP.out c _ _ _ _ h) (Or.inl ⟨by rfl, fun w hSw => by dsimp only at hSw; go_split_ands; go_simp⟩) (by assumption) ?_
        simp only [Act.put, List.setIfInBounds_toArray, List.set_cons_zero, List.set_cons_succ]
        refine wpAnyH_take (i := 14) (oi := ⟨some 57, _, _, _, _, _⟩) (v := .bool false) rfl (by kernel_rfl) (by kernel_rfl) (by kernel_rfl) (fun c _ _ h => HQP.out c _ _ _ _ h) (Or.inl ⟨by rfl, fun w hSw => by dsimp only at hSw; go_split_ands; go_simp⟩) (by assumption) ?_
        simp only [Act.put, List.setIfInBounds_toArray, List.set_cons_zero, List.set_cons_succ]
        refine wpAnyH_take (i := 15) (oi := ⟨some 58, _, _, _, _, _⟩) (v := .pointer (some ⟨wd.heap.size, 0, none⟩)) rfl (by kernel_rfl) (by kernel_rfl) (by kernel_rfl) (fun c _ _ h => HQP.out c _ _ _ _ h) (Or.inl ⟨by rfl, fun w hSw => by dsimp only at hSw; go_split_ands; go_simp⟩) (by assumption) ?_
        simp only [Act.put, List.setIfInBounds_toArray, List.set_cons_zero, List.set_cons_succ]
        refine wpAnyH_take (i := 16) (oi := ⟨some 59, _, _, _, _, _⟩) (v := .int .u8 yc) rfl (by kernel_rfl) (by kernel_rfl) (by kernel_rfl) (fun c _ _ h => HQP.out c _ _ _ _ h) (Or.inl ⟨by rfl, fun w hSw => by dsimp only at hSw; go_split_ands; go_simp⟩) (by assumption) ?_
        simp only [Act.put, List.setIfInBounds_toArray, List.set_cons_zero, List.set_cons_succ]
        refine wpAnyH_take (i := 17) (oi := ⟨some 60, _, _, _, _, _⟩) (v := .pointer (some ⟨wd.heap.size, 1, none⟩)) rfl (by kernel_rfl) (by kernel_rfl) (by kernel_rfl) (fun c _ _ h => HQP.out c _ _ _ _ h) (Or.inl ⟨by rfl, fun w hSw => by dsimp only at hSw; go_split_ands; go_simp⟩) (by assumption) ?_
        simp only [Act.put, List.setIfInBounds_toArray, List.set_cons_zero, List.set_cons_succ]
        refine wpAnyH_take (i := 18) (oi := ⟨some 61, _, _, _, _, _⟩) (v := .int .u8 ya) rfl (by kernel_rfl) (by kernel_rfl) (by kernel_rfl) (fun c _ _ h => HQP.out c _ _ _ _ h) (Or.inl ⟨by rfl, fun w hSw => by dsimp only at hSw; go_split_ands; go_simp⟩) (by assumption) ?_
        simp only [Act.put, List.setIfInBounds_toArray, List.set_cons_zero, List.set_cons_succ]
        refine wpAnyH_take (i := 19) (oi := ⟨some 62, _, _, _, _, _⟩) (v := .pointer (some ⟨wd.heap.size, 2, none⟩)) rfl (by kernel_rfl) (by kernel_rfl) (by kernel_rfl) (fun c _ _ h => HQP.out c _ _ _ _ h) (Or.inl ⟨by rfl, fun w hSw => by dsimp only at hSw; go_split_ands; go_simp⟩) (by assumption) ?_
        simp only [Act.put, List.setIfInBounds_toArray, List.set_cons_zero, List.set_cons_succ]
        refine wpAnyH_take (i := 20) (oi := ⟨some 63, _, _, _, _, _⟩) (v := .int .u8 yb) rfl (by kernel_rfl) (by kernel_rfl) (by kernel_rfl) (fun c _ _ h => HQP.out c _ _ _ _ h) (Or.inl ⟨by rfl, fun w hSw => by dsimp only at hSw; go_split_ands; go_simp⟩) (by assumption) ?_
        simp only [Act.put, List.setIfInBounds_toArray, List.set_cons_zero, List.set_cons_succ]
        refine wpAnyH_take (i := 21) (oi := ⟨some 64, _, _, _, _, _⟩) (v := .pointer (some ⟨wd.heap.size, 3, none⟩)) rfl (by kernel_rfl) (by kernel_rfl) (by kernel_rfl) (fun c _ _ h => HQP.out c _ _ _ _ h) (Or.inl ⟨by rfl, fun w hSw => by dsimp only at hSw; go_split_ands; go_simp⟩) (by assumption) ?_
        simp only [Act.put, List.setIfInBounds_toArray, List.set_cons_zero, List.set_cons_succ]
        refine wpAnyH_take (i := 22) (oi := ⟨some 65, _, _, _, _, _⟩) (v := .int .u8 yd) rfl (by kernel_rfl) (by kernel_rfl) (by kernel_rfl) (fun c _ _ h => HQP.out c _ _ _ _ h) (Or.inl ⟨by rfl, fun w hSw => by dsimp only at hSw; go_split_ands; go_simp⟩) (by assumption) ?_
        simp only [Act.put, List.setIfInBounds_toArray, List.set_cons_zero, List.set_cons_succ]
        refine wpAnyH_take (i := 23) (oi := ⟨some 66, _, _, _, _, _⟩) (v := .pointer (some ⟨wd.heap.size, 4, none⟩)) rfl (by kernel_rfl) (by kernel_rfl) (by kernel_rfl) (fun c _ _ h => HQP.out c _ _ _ _ h) (Or.inl ⟨by rfl, fun w hSw => by dsimp only at hSw; go_split_ands; go_simp⟩) (by assumption) ?_
        simp only [Act.put, List.setIfInBounds_toArray, List.set_cons_zero, List.set_cons_succ]
        refine wpAnyH_take (i := 24) (oi := ⟨some 67, _, _, _, _, _⟩) (v := .int .i16 yn) rfl (by kernel_rfl) (by kernel_rfl) (by kernel_rfl) (fun c _ _ h => HQP.out c _ _ _ _ h) (Or.inl ⟨by rfl, fun w hSw => by dsimp only at hSw; go_split_ands; go_simp⟩) (by assumption) ?_
        simp only [Act.put, List.setIfInBounds_toArray, List.set_cons_zero, List.set_cons_succ]
        refine wpAnyH_take (i := 26) (oi := ⟨some 69, _, _, _, _, _⟩) (v := .slice (some ⟨w3.heap.size, 0, none⟩) 3 3) rfl (by kernel_rfl) (by kernel_rfl) (by kernel_rfl) (fun c _ _ h => HQP.out c _ _ _ _ h) (Or.inl ⟨by rfl, fun w hSw => by dsimp only at hSw; go_split_ands; go_simp⟩) (by assumption) ?_
        simp only [Act.put, List.setIfInBounds_toArray, List.set_cons_zero, List.set_cons_succ]
        refine wpAnyH_take (i := 27) (oi := ⟨some 70, _, _, _, _, _⟩) (v := .int .i64 (k : Int)) rfl (by kernel_rfl) (by kernel_rfl) (by kernel_rfl) (fun c _ _ h => HQP.out c _ _ _ _ h) (Or.inl ⟨by rfl, fun w hSw => by dsimp only at hSw; go_split_ands; go_simp⟩) (by assumption) ?_
        simp only [Act.put, List.setIfInBounds_toArray, List.set_cons_zero, List.set_cons_succ]
        refine wpAnyH_take (i := 28) (oi := ⟨some 71, _, _, _, _, _⟩) (v := .pointer (some ⟨w3.heap.size, k, none⟩)) rfl (by kernel_rfl) (by kernel_rfl) (by kernel_rfl) (fun c _ _ h => HQP.out c _ _ _ _ h) (Or.inl ⟨by rfl, fun w hSw => by dsimp only at hSw; go_split_ands; go_simp⟩) (by assumption) ?_
        simp only [Act.put, List.setIfInBounds_toArray, List.set_cons_zero, List.set_cons_succ]
        refine wpAnyH_take (i := 29) (oi := ⟨some 72, _, _, _, _, _⟩) (v := .int .u32 (x : Int)) rfl (by kernel_rfl) (by kernel_rfl) (by kernel_rfl) (fun c _ _ h => HQP.out c _ _ _ _ h) (Or.inl ⟨by rfl, fun w hSw => by dsimp only at hSw; go_split_ands; go_simp⟩) (by assumption) ?_
        simp only [Act.put, List.setIfInBounds_toArray, List.set_cons_zero, List.set_cons_succ]
        refine wpAnyH_ready (rs := [25]) (by kernel_rfl) (by simp) ?_
        refine AllReadyH.cons rfl (fun K hK => ?_) AllReadyH.nil
        go_simp
        go_at_call 14
        refine (HWx.out _).mono ?_
        rintro e w7 ⟨rfl, hb7⟩
        try dsimp only
        refine hK.out _ _ (keepT HH hk3 hxk hb7 hHeld.1) (fun hHeld => ?_)
        clear hK K
        try simp only [Act.put, List.setIfInBounds_toArray, List.set_cons_zero, List.set_cons_succ]
        refine wpAnyH_take (i := 30) (oi := ⟨some 73, _, _, _, _, _⟩) (v := .bool false) rfl (by kernel_rfl) (by kernel_rfl) (by kernel_rfl) (fun c _ _ h => HQP.out c _ _ _ _ h) (Or.inl ⟨by rfl, fun w hSw => by dsimp only at hSw; go_split_ands; go_simp⟩) (by assumption) ?_
        simp only [Act.put, List.setIfInBounds_toArray, List.set_cons_zero, List.set_cons_succ]
        refine wpAnyH_take (i := 31) (oi := ⟨some 74, _, _, _, _, _⟩) (v := .bool false) rfl (by kernel_rfl) (by kernel_rfl) (by kernel_rfl) (fun c _ _ h => HQP.out c _ _ _ _ h) (Or.inl ⟨by rfl, fun w hSw => by dsimp only at hSw; go_split_ands; go_simp⟩) (by assumption) ?_
        simp only [Act.put, List.setIfInBounds_toArray, List.set_cons_zero, List.set_cons_succ]
        refine wpAnyH_take (i := 32) (oi := ⟨some 75, _, _, _, _, _⟩) (v := .bool false) rfl (by kernel_rfl) (by kernel_rfl) (by kernel_rfl) (fun c _ _ h => HQP.out c _ _ _ _ h) (Or.inl ⟨by rfl, fun w hSw => by dsimp only at hSw; go_split_ands; go_simp⟩) (by assumption) ?_
        simp only [Act.put, List.setIfInBounds_toArray, List.set_cons_zero, List.set_cons_succ]
        refine wpAnyH_take (i := 33) (oi := ⟨some 76, _, _, _, _, _⟩) (v := .bool false) rfl (by kernel_rfl) (by kernel_rfl) (by kernel_rfl) (fun c _ _ h => HQP.out c _ _ _ _ h) (Or.inl ⟨by rfl, fun w hSw => by dsimp only at hSw; go_split_ands; go_simp⟩) (by assumption) ?_
        simp only [Act.put, List.setIfInBounds_toArray, List.set_cons_zero, List.set_cons_succ]
        refine wpAnyH_take (i := 34) (oi := ⟨some 77, _, _, _, _, _⟩) (v := .bool true) rfl (by kernel_rfl) (by kernel_rfl) (by kernel_rfl) (fun c _ _ h => HQP.out c _ _ _ _ h) (Or.inl ⟨by rfl, fun w hSw => by dsimp only at hSw; go_split_ands; go_simp⟩) (by assumption) ?_
        simp only [Act.put, List.setIfInBounds_toArray, List.set_cons_zero, List.set_cons_succ]
        refine wpAnyH_take (i := 35) (oi := ⟨some 78, _, _, _, _, _⟩) (v := .bool false) rfl (by kernel_rfl) (by kernel_rfl) (by kernel_rfl) (fun c _ _ h => HQP.out c _ _ _ _ h) (Or.inl ⟨by rfl, fun w hSw => by dsimp only at hSw; go_split_ands; go_simp⟩) (by assumption) ?_
        simp only [Act.put, List.setIfInBounds_toArray, List.set_cons_zero, List.set_cons_succ]
        refine wpAnyH_take (i := 36) (oi := ⟨some 79, _, _, _, _, _⟩) (v := .bool false) rfl (by kernel_rfl) (by kernel_rfl) (by kernel_rfl) (fun c _ _ h => HQP.out c _ _ _ _ h) (Or.inl ⟨by rfl, fun w hSw => by dsimp only at hSw; go_split_ands; go_simp⟩) (by assumption) ?_
        simp only [Act.put, List.setIfInBounds_toArray, List.set_cons_zero, List.set_cons_succ]
        refine wpAnyH_take (i := 37) (oi := ⟨some 80, _, _, _, _, _⟩) (v := undef) rfl (by kernel_rfl) (by kernel_rfl) (by kernel_rfl) (fun c _ _ h => HQP.out c _ _ _ _ h) (Or.inr ⟨by rfl, rfl⟩) (by assumption) ?_
        simp only [Act.put, List.setIfInBounds_toArray, List.set_cons_zero, List.set_cons_succ]
        refine wpAnyH_take (i := 38) (oi := ⟨some 81, _, _, _, _, _⟩) (v := undef) rfl (by kernel_rfl) (by kernel_rfl) (by kernel_rfl) (fun c _ _ h => HQP.out c _ _ _ _ h) (Or.inr ⟨by rfl, rfl⟩) (by assumption) ?_
        simp only [Act.put, List.setIfInBounds_toArray, List.set_cons_zero, List.set_cons_succ]
        refine wpAnyH_take (i := 39) (oi := ⟨some 82, _, _, _, _, _⟩) (v := undef) rfl (by kernel_rfl) (by kernel_rfl) (by kernel_rfl) (fun c _ _ h => HQP.out c _ _ _ _ h) (Or.inr ⟨by rfl, rfl⟩) (by assumption) ?_
        simp only [Act.put, List.setIfInBounds_toArray, List.set_cons_zero, List.set_cons_succ]
        refine wpAnyH_take (i := 40) (oi := ⟨some 83, _, _, _, _, _⟩) (v := .bool false) rfl (by kernel_rfl) (by kernel_rfl) (by kernel_rfl) (fun c _ _ h => HQP.out c _ _ _ _ h) (Or.inl ⟨by rfl, fun w hSw => by dsimp only at hSw; go_split_ands; go_simp⟩) (by assumption) ?_
        simp only [Act.put, List.setIfInBounds_toArray, List.set_cons_zero, List.set_cons_succ]
        refine wpAnyH_take (i := 41) (oi := ⟨some 84, _, _, _, _, _⟩) (v := .bool false) rfl (by kernel_rfl) (by kernel_rfl) (by kernel_rfl) (fun c _ _ h => HQP.out c _ _ _ _ h) (Or.inl ⟨by rfl, fun w hSw => by dsimp only at hSw; go_split_ands; go_simp⟩) (by assumption) ?_
        simp only [Act.put, List.setIfInBounds_toArray, List.set_cons_zero, List.set_cons_succ]
        refine wpAnyH_done (by kernel_rfl) ?_ _
        refine NoPanic.normal ?_
        all_goals
          go_wp2
          go_roundw
          case rel => exact ⟨k + 1, by omega, by go_num, UF _ (((hV.drewN 1).step hb6).step hb7)⟩
          case measure => simp [intOf]; omega
      | false =>
        have ec : decCells x = [.int .u8 0, .int .u8 0, .int .u8 0, .int .u8 0, .int .i16 0] := by unfold decCells; rw [hok]; rfl
        rw [ec]
        clear ec hok OK
        go_upto_region 7 with (fail)
        have T1 : Hid (Inv wd [.int .u8 0, .int .u8 0, .int .u8 0, .int .u8 0, .int .i16 0] 24 (wd.alloc (.cells #[.int .u8 0, .int .u8 0, .int .u8 0, .int .u8 0, .int .i16 0] 24))) := Inv.new wd _ _
        generalize wd.alloc (.cells #[.int .u8 0, .int .u8 0, .int .u8 0, .int .u8 0, .int .i16 0] 24) = w5 at *
        have UU := UD
        have hV := T1.out
        have hE0 := HE0.out
        have hS := keepT UU.out hk3 hxk (Below.refl _ _) T1.out
        obtain ⟨hq, c0, c1, c2, c3, c4, ck⟩ := hS
        have hUF := Lib.hid (UU.out.step T1.out.b)
        clear hq hV T1
        go_quiet (fail)
        go_wp2
        go_roundw
        case rel => exact ⟨k + 1, by omega, by go_num, hUF.out.drewN _⟩
        case measure => simp [intOf]; omega
    · obtain rfl : k = 3 := by omega
      have AU := Lib.hid (A3.out.trans (U.out.b.mono A3.out.size))
      clear U HXS
      go_wp2_with fail
      refine (HDX.out _).mono ?_
      rintro e w5 ⟨rfl, hbe⟩
      have A5 := Lib.hid (AU.out.trans (hbe.mono AU.out.size))
      clear hbe AU
      go_upto_region 10 with (fail)
      have A6 : Hid (Below w.heap.size w (w5.alloc (.cells #[.int .u8 xc, .int .u8 xa, .int .u8 xb, .int .u8 xd, .int .i16 xn] 24))) := A5.out.alloc A5.out.size _
      generalize w5.alloc (.cells #[.int .u8 xc, .int .u8 xa, .int .u8 xb, .int .u8 xd, .int .i16 xn] 24) = w6 at *
      go_wp2_with fail
      refine (awake_calls _).mono ?_
      rintro e w7 ⟨rfl, hbe⟩
      have A7 := Lib.hid (A6.out.trans (hbe.mono A6.out.size))
      clear hbe A6
      go_wp2
      go_ret
      exact ⟨rfl, A7.out⟩
end Go.Proofs.Ytbjlldenokdpeaa.Walks
