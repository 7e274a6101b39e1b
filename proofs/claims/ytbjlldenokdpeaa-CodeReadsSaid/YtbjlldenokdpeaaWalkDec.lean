/- Walks through the functions of the statement, and the statement over them: each contract says what the call answers and that nothing else changes. -/
import Derived.Test.YtbjlldenokdpeaaProg
import Derived.Test.YtbjlldenokdpeaaBits
import Derived.Test.YtbjlldenokdpeaaHeap
import Derived.Test.YtbjlldenokdpeaaAid
import Derived.Lib.Hide
import Derived.Test.YtbjlldenokdpeaaArr
import Derived.Test.YtbjlldenokdpeaaWalkNums
import Derived.WalkKit
import Derived.WalkSpells
import Derived.WalkLawsBesides
import Derived.Deep.QuietTactic
import Derived.BigQuiet
import Derived.Deep.DeepCutAuto
import Derived.Deep.CutBlock
import Derived.Lib.SlBytesConst
namespace Go.Proofs.Ytbjlldenokdpeaa.Walks
set_option linter.unusedVariables false
set_option linter.unusedSimpArgs false
open Go.RowKit Go.Proofs.Ytbjlldenokdpeaa.Bits Go.Proofs.Ytbjlldenokdpeaa.Heap Go.Proofs.Ytbjlldenokdpeaa.Aid Go.Proofs.Ytbjlldenokdpeaa.Arr

theorem fits_op {w : World} {cs : List Value} (h : Fits w (.seq (.int .u8) (.seq (.int .u8) (.seq (.int .u8) (.seq (.int .u8) (.seq (.int .i16) .nil))))) cs) :
    ∃ (c a b d : Nat) (n : Int), cs = [.int .u8 c, .int .u8 a, .int .u8 b, .int .u8 d, .int .i16 n] ∧ c < 256 ∧ a < 256 ∧ b < 256 ∧ d < 256 ∧ -32768 ≤ n ∧ n ≤ 32767 := by
  obtain ⟨_, _, rfl, ⟨c, rfl, hc⟩, _, _, rfl, ⟨a, rfl, ha⟩, _, _, rfl, ⟨b, rfl, hb⟩, _, _, rfl, ⟨d, rfl, hd⟩, _, _, rfl, ⟨n, rfl, hn⟩, rfl⟩ := h
  obtain ⟨c', rfl, hc'⟩ := wf_u8 hc
  obtain ⟨a', rfl, ha'⟩ := wf_u8 ha
  obtain ⟨b', rfl, hb'⟩ := wf_u8 hb
  obtain ⟨d', rfl, hd'⟩ := wf_u8 hd
  refine ⟨c', a', b', d', n, rfl, hc', ha', hb', hd', ?_⟩
  simp [Lit.wf, IntKind.min, IntKind.max, IntKind.signed, IntKind.bits] at hn
  omega
/-- The block that holds the instruction, in any later world. -/
structure Inv (w : World) (cs : List Value) (t : TypeId) (w' : World) : Prop where
  b : Below w.heap.size w w'
  k : Blk w' w.heap.size cs t
  z : w.heap.size < w'.heap.size
theorem Inv.step {w w1 w2 : World} {cs : List Value} {t : TypeId} (h : Inv w cs t w1) (hb : Below w1.heap.size w1 w2) : Inv w cs t w2 :=
  ⟨h.b.trans (hb.mono h.b.size), h.k.below hb h.z, Nat.lt_of_lt_of_le h.z hb.size⟩
theorem Inv.drewN {w w1 : World} {cs : List Value} {t : TypeId} (h : Inv w cs t w1) (m : Nat) : Inv w cs t (w1.drewN m) :=
  ⟨below_drewN h.b m, h.k.drewN m, h.z⟩
theorem Inv.new (w : World) (A : Array Value) (t : TypeId) : Inv w A.toList t (w.alloc (.cells A t)) :=
  ⟨(Below.refl _ _).alloc (Nat.le_refl _) _, Blk.new w _ _, by simp⟩
theorem Inv.set {w w1 : World} {cs : List Value} {t : TypeId} (h : Inv w cs t w1) (k : Nat) (v : Value) : Inv w (cs.set k v) t (w1.setCell ⟨w.heap.size, k, none⟩ v) :=
  ⟨h.b.setCell (Nat.le_refl _) v, h.k.set k v, by have := h.z; simpa [World.setCell] using this⟩
theorem Inv.setAll {w w1 : World} {cs : List Value} {t : TypeId} (h : Inv w cs t w1) (vs : List Value) (hl : vs.length = cs.length) : Inv w vs t (w1.setCells w.heap.size 0 vs) :=
  ⟨below_setCells h.b (Nat.le_refl _) 0 vs, blk_setAll h.k hl, by have := h.z; rw [size_setCells]; exact this⟩
theorem keepS {w w1 w2 : World} {x0 x1 x2 x3 x4 : Value} {t : TypeId} (hb : Below w1.heap.size w1 w2) (h : Inv w [x0, x1, x2, x3, x4] t w1) :
    Inv w [x0, x1, x2, x3, x4] t w2 ∧ w2.cell? ⟨w.heap.size, 0, none⟩ = some x0 ∧ w2.cell? ⟨w.heap.size, 1, none⟩ = some x1 ∧ w2.cell? ⟨w.heap.size, 2, none⟩ = some x2 ∧ w2.cell? ⟨w.heap.size, 3, none⟩ = some x3 ∧ w2.cell? ⟨w.heap.size, 4, none⟩ = some x4 :=
  let k := h.step hb
  ⟨k, k.k.cellAt (i := 0) rfl, k.k.cellAt (i := 1) rfl, k.k.cellAt (i := 2) rfl, k.k.cellAt (i := 3) rfl, k.k.cellAt (i := 4) rfl⟩
def dC (v : Nat) : Nat := v / 2 ^ 26 % 2 ^ 6
def dA (v : Nat) : Nat := v / 2 ^ 22 % 2 ^ 4
def dB (v : Nat) : Nat := v / 2 ^ 18 % 2 ^ 4
def dD (v : Nat) : Nat := if fC (dC v : Nat) then v / 2 ^ 0 % 2 ^ 4 else 0
def dN (v : Nat) : Int := if fC (dC v : Nat) then 0 else IntKind.i16.wrap ((v / 2 ^ 0 % 2 ^ 16 : Nat) : Int)
def decOk (v : Nat) : Bool := rightB (dC v : Nat) (dA v : Nat) (dB v : Nat) (dD v : Nat) (dN v) && decide (encW (dC v) (dA v) (dB v) (dD v) (dN v) = v)
def decCells (v : Nat) : List Value := if decOk v then [.int .u8 (dC v : Nat), .int .u8 (dA v : Nat), .int .u8 (dB v : Nat), .int .u8 (dD v : Nat), .int .i16 (dN v)] else [.int .u8 0, .int .u8 0, .int .u8 0, .int .u8 0, .int .i16 0]
theorem fld_26 (v : Nat) : fld v 26 6 = dC v := rfl
theorem fld_22 (v : Nat) : fld v 22 4 = dA v := rfl
theorem fld_18 (v : Nat) : fld v 18 4 = dB v := rfl
theorem fld_4 (v : Nat) : fld v 0 4 = v / 2 ^ 0 % 2 ^ 4 := rfl
theorem fld_16 (v : Nat) : fld v 0 16 = v / 2 ^ 0 % 2 ^ 16 := rfl
theorem wrap16_bounds (x : Int) : -32768 ≤ IntKind.i16.wrap x ∧ IntKind.i16.wrap x ≤ 32767 := by
  simp [IntKind.wrap, IntKind.signed, IntKind.bits]
  omega
set_option maxHeartbeats 4000000 in
theorem decode_calls (v : Nat) (hv : v < 2 ^ 32) (w : World) :
    Calls Try.prog 13 #[.int .u32 v] w fun e w' => e = .returned (.tuple #[.agg (decCells v).toArray, .bool (decOk v)]) ∧ Below w.heap.size w w' := by
  have HL : Hid (∀ (a n : Int) (w : World), Calls Try.prog 19 #[.int .u64 v, .int .i64 a, .int .i64 n] w fun e w' => e = .returned (.int .u64 (fld v a n)) ∧ w = w') := fun a n w => field_calls (by omega) a n w
  have hv0 : 0 ≤ (v : Int) := by omega
  have hv1 : (v : Int) < 4294967296 := by omega
  have I5 := Lib.hid size5
  have KC := Lib.hid run_kindC
  have DO := Lib.hid (show decOk v = (rightB (dC v : Nat) (dA v : Nat) (dB v : Nat) (dD v : Nat) (dN v) && decide (encW (dC v) (dA v) (dB v) (dD v) (dN v) = v)) from rfl)
  have DL := Lib.hid (show decCells v = if decOk v then [.int .u8 (dC v : Nat), .int .u8 (dA v : Nat), .int .u8 (dB v : Nat), .int .u8 (dD v : Nat), .int .i16 (dN v)] else [.int .u8 0, .int .u8 0, .int .u8 0, .int .u8 0, .int .i16 0] from rfl)
  have DD := Lib.hid (show dD v = if fC (dC v : Nat) then v / 2 ^ 0 % 2 ^ 4 else 0 from rfl)
  have DN := Lib.hid (show dN v = if fC (dC v : Nat) then 0 else IntKind.i16.wrap ((v / 2 ^ 0 % 2 ^ 16 : Nat) : Int) from rfl)
  have F1 := Lib.hid (fld_26 v)
  have F2 := Lib.hid (fld_22 v)
  have F3 := Lib.hid (fld_18 v)
  have F4 := Lib.hid (fld_4 v)
  have F5 := Lib.hid (fld_16 v)
  have hc : dC v < 64 := by unfold dC; omega
  have ha : dA v < 16 := by unfold dA; omega
  have hb : dB v < 16 := by unfold dB; omega
  have hx : v / 2 ^ 0 % 2 ^ 4 < 16 := by omega
  have hy : v / 2 ^ 0 % 2 ^ 16 < 65536 := by omega
  generalize decOk v = ok at *
  generalize decCells v = cs at *
  generalize dC v = c at *
  generalize dA v = a at *
  generalize dB v = b at *
  generalize dD v = d at *
  generalize dN v = n at *
  generalize v / 2 ^ 0 % 2 ^ 4 = x4 at *
  generalize v / 2 ^ 0 % 2 ^ 16 = x16 at *
  have hci : (c : Int) < 256 := by omega
  have hai : (a : Int) < 256 := by omega
  have hbi : (b : Int) < 256 := by omega
  have hc0 : 0 ≤ (c : Int) := by omega
  have ha0 : 0 ≤ (a : Int) := by omega
  have hb0 : 0 ≤ (b : Int) := by omega
  go_enter Try.func13, Try.ntmps13
  go_upto_region 2 with (fail)
  have V1 : Hid (Inv w [.int .u8 0, .int .u8 0, .int .u8 0, .int .u8 0, .int .i16 0] 24 (w.alloc (.cells #[.int .u8 0, .int .u8 0, .int .u8 0, .int .u8 0, .int .i16 0] 24))) := Inv.new w _ _
  generalize w.alloc (.cells #[.int .u8 0, .int .u8 0, .int .u8 0, .int .u8 0, .int .i16 0] 24) = w1 at *
  go_wp2_with fail
  refine (HL.out 26 6 _).mono ?_
  rintro e w2 ⟨rfl, rfl⟩
  rw [F1.out]
  go_wp2_with fail
  refine (HL.out 22 4 _).mono ?_
  rintro e w2 ⟨rfl, rfl⟩
  rw [F2.out]
  go_wp2_with fail
  refine (HL.out 18 4 _).mono ?_
  rintro e w2 ⟨rfl, rfl⟩
  rw [F3.out]
  go_upto_region 3 with (fail)
  have U2 : Hid (Inv w1 [.int .u8 c, .int .u8 a, .int .u8 b, .int .u8 0, .int .i16 0] 24 (w1.alloc (.cells #[.int .u8 c, .int .u8 a, .int .u8 b, .int .u8 0, .int .i16 0] 24))) := Inv.new w1 _ _
  generalize w1.alloc (.cells #[.int .u8 c, .int .u8 a, .int .u8 b, .int .u8 0, .int .i16 0] 24) = w2 at *
  have c0 := U2.out.k.cellAt (i := 0) rfl
  go_wp2_with fail
  refine (fields_calls c (by omega) _).mono ?_
  rintro e w3 ⟨rfl, hbe⟩
  have U3 := Lib.hid (U2.out.step hbe)
  clear hbe U2 c0
  have hfl := fun w => KC.out w (fA c) (fB c) (fC c) (fN c)
  cases hfc : fC c with
  | true =>
    rw [hfc] at hfl DD DN
    have hd4 : d = x4 := by rw [DD.out]; rfl
    have hn4 : n = 0 := by rw [DN.out]; rfl
    subst hd4
    subst hn4
    have hn : (-32768 : Int) ≤ 0 ∧ (0 : Int) ≤ 32767 := by omega
    have hxi : (d : Int) < 256 := by omega
    have hx0 : 0 ≤ (d : Int) := by omega
    go_wp2_with fail
    refine (HL.out 0 4 _).mono ?_
    rintro e w2 ⟨rfl, rfl⟩
    rw [F4.out]
    have c3 := U3.out.k.cellAt (i := 3) rfl
    have f3 := U3.out.k.unfrozen 3
    go_upto_region 6 with (fail)
    have U4 : Hid (Inv w1 [.int .u8 c, .int .u8 a, .int .u8 b, .int .u8 d, .int .i16 0] 24 (w3.setCell ⟨w1.heap.size, 3, none⟩ (.int .u8 d))) := U3.out.set 3 _
    clear U3 c3 f3 DD DN F4 F5 F1 F2 F3
    generalize w3.setCell ⟨w1.heap.size, 3, none⟩ (.int .u8 d) = w4 at *
    go_wp2_with (refine wpList_load_mid rfl 24 (.tmp 5) rfl w1.heap.size 0 rfl [.int .u8 c, .int .u8 a, .int .u8 b, .int .u8 d, .int .i16 0] _ (range_all U4.out.k) Try.underlying24 rfl (by simpa using I5.out) ?_)
    refine (encode_calls c a b d 0 (by omega) (by omega) (by omega) (by omega) hn _).mono ?_
    rintro e w5 ⟨rfl, hbe⟩
    have U5 := Lib.hid (U4.out.step hbe)
    have V5 := Lib.hid (V1.out.step U5.out.b)
    clear hbe U4
    generalize encW c a b d 0 = ev at *
    generalize rightB c a b d 0 = rb at *
    cases rb with
    | false =>
      have DO2 : ok = false := by rw [DO.out]; rfl
      go_wp2_with (refine wpList_store_mid rfl 24 (.tmp 2) (.tmp 44) rfl w.heap.size 0 #[.int .u8 0, .int .u8 0, .int .u8 0, .int .u8 0, .int .i16 0] rfl rfl (there_of_blk V5.out.k ?s1) ?s2 ?s3 ?_)
      case s1 => simp
      case s2 => simpa using I5.out
      case s3 => simp [Value.oneCell']
      have hbz := V5.out.setAll [.int .u8 0, .int .u8 0, .int .u8 0, .int .u8 0, .int .i16 0] rfl
      refine bodyPost_ret (v := .tuple #[.agg #[.int .u8 0, .int .u8 0, .int .u8 0, .int .u8 0, .int .i16 0], .bool false]) (results_ct Try.results13 _ _ w.heap.size [.int .u8 0, .int .u8 0, .int .u8 0, .int .u8 0, .int .i16 0] _ rfl (range_all hbz.k) Try.underlying24 rfl (by simpa using I5.out)) rfl ⟨by rw [DL.out, DO2]; rfl, hbz.b⟩
    | true =>
      by_cases hev : ev = v
      · have DO2 : ok = true := by rw [DO.out, hev]; simp
        have hd : ((ev : Int) != (v : Int)) = false := by simp [hev]
        go_wp2_with (first | refine wpList_load_mid rfl 24 (.tmp 5) rfl w1.heap.size 0 rfl [.int .u8 c, .int .u8 a, .int .u8 b, .int .u8 d, .int .i16 0] _ (range_all U5.out.k) Try.underlying24 rfl (by simpa using I5.out) ?_ | refine wpList_store_mid rfl 24 (.tmp 2) (.tmp 45) rfl w.heap.size 0 #[.int .u8 c, .int .u8 a, .int .u8 b, .int .u8 d, .int .i16 0] rfl rfl (there_of_blk V5.out.k ?s1) ?s2 ?s3 ?_)
        case s1 => simp
        case s2 => simpa using I5.out
        case s3 => simp [Value.oneCell']
        have hbz := V5.out.setAll [.int .u8 c, .int .u8 a, .int .u8 b, .int .u8 d, .int .i16 0] rfl
        refine bodyPost_ret (v := .tuple #[.agg #[.int .u8 c, .int .u8 a, .int .u8 b, .int .u8 d, .int .i16 0], .bool true]) (results_ct Try.results13 _ _ w.heap.size [.int .u8 c, .int .u8 a, .int .u8 b, .int .u8 d, .int .i16 0] _ rfl (range_all hbz.k) Try.underlying24 rfl (by simpa using I5.out)) rfl ⟨by rw [DL.out, DO2]; rfl, hbz.b⟩
      · have DO2 : ok = false := by rw [DO.out]; simp [hev]
        have hd : ((ev : Int) != (v : Int)) = true := by simp; omega
        go_wp2_with (refine wpList_store_mid rfl 24 (.tmp 2) (.tmp 44) rfl w.heap.size 0 #[.int .u8 0, .int .u8 0, .int .u8 0, .int .u8 0, .int .i16 0] rfl rfl (there_of_blk V5.out.k ?s1) ?s2 ?s3 ?_)
        case s1 => simp
        case s2 => simpa using I5.out
        case s3 => simp [Value.oneCell']
        have hbz := V5.out.setAll [.int .u8 0, .int .u8 0, .int .u8 0, .int .u8 0, .int .i16 0] rfl
        refine bodyPost_ret (v := .tuple #[.agg #[.int .u8 0, .int .u8 0, .int .u8 0, .int .u8 0, .int .i16 0], .bool false]) (results_ct Try.results13 _ _ w.heap.size [.int .u8 0, .int .u8 0, .int .u8 0, .int .u8 0, .int .i16 0] _ rfl (range_all hbz.k) Try.underlying24 rfl (by simpa using I5.out)) rfl ⟨by rw [DL.out, DO2]; rfl, hbz.b⟩
  | false =>
    rw [hfc] at hfl DD DN
    have hd4 : d = 0 := by rw [DD.out]; rfl
    have hn4 : n = IntKind.i16.wrap x16 := by rw [DN.out]; rfl
    have hn : -32768 ≤ n ∧ n ≤ 32767 := by rw [hn4]; exact wrap16_bounds _
    subst hd4
    have hxi : (x16 : Int) < 65536 := by omega
    have hx0 : 0 ≤ (x16 : Int) := by omega
    have HN4 := Lib.hid hn4
    clear hn4
    go_wp2_with fail
    refine (HL.out 0 16 _).mono ?_
    rintro e w2 ⟨rfl, rfl⟩
    rw [F5.out]
    have c4 := U3.out.k.cellAt (i := 4) rfl
    have f4 := U3.out.k.unfrozen 4
    go_upto_region 6 with (fail)
    rw [← HN4.out]
    have U4 : Hid (Inv w1 [.int .u8 c, .int .u8 a, .int .u8 b, .int .u8 0, .int .i16 n] 24 (w3.setCell ⟨w1.heap.size, 4, none⟩ (.int .i16 n))) := U3.out.set 4 _
    clear U3 c4 f4 DD DN F4 F5 F1 F2 F3 HN4
    generalize w3.setCell ⟨w1.heap.size, 4, none⟩ (.int .i16 n) = w4 at *
    go_wp2_with (refine wpList_load_mid rfl 24 (.tmp 5) rfl w1.heap.size 0 rfl [.int .u8 c, .int .u8 a, .int .u8 b, .int .u8 0, .int .i16 n] _ (range_all U4.out.k) Try.underlying24 rfl (by simpa using I5.out) ?_)
    refine (encode_calls c a b 0 n (by omega) (by omega) (by omega) (by omega) hn _).mono ?_
    rintro e w5 ⟨rfl, hbe⟩
    have U5 := Lib.hid (U4.out.step hbe)
    have V5 := Lib.hid (V1.out.step U5.out.b)
    clear hbe U4
    generalize encW c a b 0 n = ev at *
    generalize rightB c a b 0 n = rb at *
    cases rb with
    | false =>
      have DO2 : ok = false := by rw [DO.out]; rfl
      go_wp2_with (refine wpList_store_mid rfl 24 (.tmp 2) (.tmp 44) rfl w.heap.size 0 #[.int .u8 0, .int .u8 0, .int .u8 0, .int .u8 0, .int .i16 0] rfl rfl (there_of_blk V5.out.k ?s1) ?s2 ?s3 ?_)
      case s1 => simp
      case s2 => simpa using I5.out
      case s3 => simp [Value.oneCell']
      have hbz := V5.out.setAll [.int .u8 0, .int .u8 0, .int .u8 0, .int .u8 0, .int .i16 0] rfl
      refine bodyPost_ret (v := .tuple #[.agg #[.int .u8 0, .int .u8 0, .int .u8 0, .int .u8 0, .int .i16 0], .bool false]) (results_ct Try.results13 _ _ w.heap.size [.int .u8 0, .int .u8 0, .int .u8 0, .int .u8 0, .int .i16 0] _ rfl (range_all hbz.k) Try.underlying24 rfl (by simpa using I5.out)) rfl ⟨by rw [DL.out, DO2]; rfl, hbz.b⟩
    | true =>
      by_cases hev : ev = v
      · have DO2 : ok = true := by rw [DO.out, hev]; simp
        have hd : ((ev : Int) != (v : Int)) = false := by simp [hev]
        go_wp2_with (first | refine wpList_load_mid rfl 24 (.tmp 5) rfl w1.heap.size 0 rfl [.int .u8 c, .int .u8 a, .int .u8 b, .int .u8 0, .int .i16 n] _ (range_all U5.out.k) Try.underlying24 rfl (by simpa using I5.out) ?_ | refine wpList_store_mid rfl 24 (.tmp 2) (.tmp 45) rfl w.heap.size 0 #[.int .u8 c, .int .u8 a, .int .u8 b, .int .u8 0, .int .i16 n] rfl rfl (there_of_blk V5.out.k ?s1) ?s2 ?s3 ?_)
        case s1 => simp
        case s2 => simpa using I5.out
        case s3 => simp [Value.oneCell']
        have hbz := V5.out.setAll [.int .u8 c, .int .u8 a, .int .u8 b, .int .u8 0, .int .i16 n] rfl
        refine bodyPost_ret (v := .tuple #[.agg #[.int .u8 c, .int .u8 a, .int .u8 b, .int .u8 0, .int .i16 n], .bool true]) (results_ct Try.results13 _ _ w.heap.size [.int .u8 c, .int .u8 a, .int .u8 b, .int .u8 0, .int .i16 n] _ rfl (range_all hbz.k) Try.underlying24 rfl (by simpa using I5.out)) rfl ⟨by rw [DL.out, DO2]; rfl, hbz.b⟩
      · have DO2 : ok = false := by rw [DO.out]; simp [hev]
        have hd : ((ev : Int) != (v : Int)) = true := by simp; omega
        go_wp2_with (refine wpList_store_mid rfl 24 (.tmp 2) (.tmp 44) rfl w.heap.size 0 #[.int .u8 0, .int .u8 0, .int .u8 0, .int .u8 0, .int .i16 0] rfl rfl (there_of_blk V5.out.k ?s1) ?s2 ?s3 ?_)
        case s1 => simp
        case s2 => simpa using I5.out
        case s3 => simp [Value.oneCell']
        have hbz := V5.out.setAll [.int .u8 0, .int .u8 0, .int .u8 0, .int .u8 0, .int .i16 0] rfl
        refine bodyPost_ret (v := .tuple #[.agg #[.int .u8 0, .int .u8 0, .int .u8 0, .int .u8 0, .int .i16 0], .bool false]) (results_ct Try.results13 _ _ w.heap.size [.int .u8 0, .int .u8 0, .int .u8 0, .int .u8 0, .int .i16 0] _ rfl (range_all hbz.k) Try.underlying24 rfl (by simpa using I5.out)) rfl ⟨by rw [DL.out, DO2]; rfl, hbz.b⟩
end Go.Proofs.Ytbjlldenokdpeaa.Walks
