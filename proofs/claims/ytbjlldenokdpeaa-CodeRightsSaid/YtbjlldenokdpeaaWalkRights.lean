/- Walks through the functions of the statement, and the statement over them: each contract says what the call answers and that nothing else changes. -/
import Derived.Test.YtbjlldenokdpeaaProg
import Derived.Test.YtbjlldenokdpeaaBits
import Derived.Test.YtbjlldenokdpeaaHeap
import Derived.Test.YtbjlldenokdpeaaAid
import Derived.Lib.Hide
import Derived.Test.YtbjlldenokdpeaaArr
import Derived.Test.YtbjlldenokdpeaaWalkNear
import Derived.Test.YtbjlldenokdpeaaWalkRefR
import Derived.Test.YtbjlldenokdpeaaWalkNums
import Derived.WalkKit
import Derived.WalkSpells
import Derived.WalkLawsBesides
import Derived.Deep.QuietTactic
import Derived.BigQuiet
import Derived.Deep.RegionWith
import Derived.Deep.RegionHeld3
import Derived.Deep.DeepCutAuto
import Derived.Deep.CutBlock
import Derived.Lib.SlBytesConst
namespace Go.Proofs.Ytbjlldenokdpeaa.Walks
set_option linter.unusedVariables false
set_option linter.unusedSimpArgs false
open Go.RowKit Go.Proofs.Ytbjlldenokdpeaa.Bits Go.Proofs.Ytbjlldenokdpeaa.Heap Go.Proofs.Ytbjlldenokdpeaa.Aid Go.Proofs.Ytbjlldenokdpeaa.Arr

theorem fits_op {w : World} {cs : List Value} (h : Fits w (.seq (.int .u8) (.seq (.int .u8) (.seq (.int .u8) (.seq (.int .u8) (.seq (.int .i16) .nil))))) cs) :
    ∃ (c a b d : Nat) (n : Int), cs = [.int .u8 c, .int .u8 a, .int .u8 b, .int .u8 d, .int .i16 n] ∧ c < 256 ∧ a < 256 ∧ b < 256 ∧ d < 256 ∧ -32768 ≤ n ∧ n ≤ 32767 := by
  obtain ⟨_, _, rfl, ⟨c, rfl, hc⟩, _, _, rfl, ⟨a, rfl, ha⟩, _, _, rfl, ⟨b, rfl, hb⟩, _, _, rfl, ⟨d, rfl, hd⟩, _, _, rfl, ⟨n, rfl, hn⟩, rfl⟩ := h
  obtain ⟨c', rfl, hc'⟩ := wf_u8 hc
  obtain ⟨a', rfl, ha'⟩ := wf_u8 ha
  obtain ⟨b', rfl, hb'⟩ := wf_u8 hb
  obtain ⟨d', rfl, hd'⟩ := wf_u8 hd
  refine ⟨c', a', b', d', n, rfl, hc', ha', hb', hd', ?_⟩
  simp [Lit.wf, IntKind.min, IntKind.max, IntKind.signed, IntKind.bits] at hn
  omega
/-- The block that holds the instruction, in any later world. -/
structure Inv (w : World) (cs : List Value) (t : TypeId) (w' : World) : Prop where
  b : Below w.heap.size w w'
  k : Blk w' w.heap.size cs t
  z : w.heap.size < w'.heap.size
theorem Inv.step {w w1 w2 : World} {cs : List Value} {t : TypeId} (h : Inv w cs t w1) (hb : Below w1.heap.size w1 w2) : Inv w cs t w2 :=
  ⟨h.b.trans (hb.mono h.b.size), h.k.below hb h.z, Nat.lt_of_lt_of_le h.z hb.size⟩
theorem Inv.drewN {w w1 : World} {cs : List Value} {t : TypeId} (h : Inv w cs t w1) (m : Nat) : Inv w cs t (w1.drewN m) :=
  ⟨below_drewN h.b m, h.k.drewN m, h.z⟩
theorem Inv.new (w : World) (A : Array Value) (t : TypeId) : Inv w A.toList t (w.alloc (.cells A t)) :=
  ⟨(Below.refl _ _).alloc (Nat.le_refl _) _, Blk.new w _ _, by simp⟩
theorem Inv.set {w w1 : World} {cs : List Value} {t : TypeId} (h : Inv w cs t w1) (k : Nat) (v : Value) : Inv w (cs.set k v) t (w1.setCell ⟨w.heap.size, k, none⟩ v) :=
  ⟨h.b.setCell (Nat.le_refl _) v, h.k.set k v, by have := h.z; simpa [World.setCell] using this⟩
theorem Inv.setAll {w w1 : World} {cs : List Value} {t : TypeId} (h : Inv w cs t w1) (vs : List Value) (hl : vs.length = cs.length) : Inv w vs t (w1.setCells w.heap.size 0 vs) :=
  ⟨below_setCells h.b (Nat.le_refl _) 0 vs, blk_setAll h.k hl, by have := h.z; rw [size_setCells]; exact this⟩
theorem keepS {w w1 w2 : World} {x0 x1 x2 x3 x4 : Value} {t : TypeId} (hb : Below w1.heap.size w1 w2) (h : Inv w [x0, x1, x2, x3, x4] t w1) :
    Inv w [x0, x1, x2, x3, x4] t w2 ∧ w2.cell? ⟨w.heap.size, 0, none⟩ = some x0 ∧ w2.cell? ⟨w.heap.size, 1, none⟩ = some x1 ∧ w2.cell? ⟨w.heap.size, 2, none⟩ = some x2 ∧ w2.cell? ⟨w.heap.size, 3, none⟩ = some x3 ∧ w2.cell? ⟨w.heap.size, 4, none⟩ = some x4 :=
  let k := h.step hb
  ⟨k, k.k.cellAt (i := 0) rfl, k.k.cellAt (i := 1) rfl, k.k.cellAt (i := 2) rfl, k.k.cellAt (i := 3) rfl, k.k.cellAt (i := 4) rfl⟩
set_option maxHeartbeats 4000000 in
theorem rights_walk (c0 : List Value) (a1 : Int) (w : World) (f0 : Fits w (.seq (.int .u8) (.seq (.int .u8) (.seq (.int .u8) (.seq (.int .u8) (.seq (.int .i16) .nil))))) c0) (w1 : (Lit.int .u8 a1).wf = true) :
    Calls Try.prog 3 #[.agg c0.toArray, .int .u8 a1] w fun e w' => e = .returned (.bool true) ∧ Below w.heap.size w w' := by
  obtain ⟨c, a, b, d, n, rfl, hc, ha, hb, hd, hn⟩ := fits_op f0
  obtain ⟨q, rfl, hq⟩ := wf_u8 w1
  clear f0 w1
  have HR : Hid (∀ (c a b d : Nat) (n : Int) (w : World), Calls Try.prog 10 #[.agg #[.int .u8 c, .int .u8 a, .int .u8 b, .int .u8 d, .int .i16 n]] w fun e w' => e = .returned (.bool (rightB c a b d n)) ∧ Below w.heap.size w w') := fun c a b d n w => right_calls c a b d n (by omega) w
  have HQ := Lib.hid refRight_calls
  have HN := Lib.hid (near_calls c (c % 23) a b d n rfl)
  have I5 := Lib.hid size5
  generalize c % 23 = c1 at *
  generalize pickIf (fA c1) a = va at *
  generalize pickIf (fB c1) b = vb at *
  generalize pickIf (fC c1) d = vd at *
  generalize nearN c1 n = nn at *
  go_enter Try.func3, Try.ntmps3
  go_upto_region 1 with (fail)
  have V1 : Hid (Inv w [.int .u8 c, .int .u8 a, .int .u8 b, .int .u8 d, .int .i16 n] 24 (w.alloc (.cells #[.int .u8 c, .int .u8 a, .int .u8 b, .int .u8 d, .int .i16 n] 24))) := Inv.new w _ _
  generalize w.alloc (.cells #[.int .u8 c, .int .u8 a, .int .u8 b, .int .u8 d, .int .i16 n] 24) = w1 at *
  by_cases h64 : 64 ≤ q
  · have hd64 : decide (64 ≤ (q : Int)) = true := decide_eq_true (by omega)
    have cells : Hid (Blk w1 w.heap.size [.int .u8 c, .int .u8 a, .int .u8 b, .int .u8 d, .int .i16 n] 24) := V1.out.k
    go_upto_region 2 with (fail)
    go_wp2_with (refine wpList_load_mid rfl 24 (.tmp 2) rfl w.heap.size 0 rfl [.int .u8 c, .int .u8 a, .int .u8 b, .int .u8 d, .int .i16 n] _ (range_all cells.out) Try.underlying24 rfl I5.out ?_)
    refine (HN.out _).mono ?_
    rintro e w2 ⟨rfl, hb⟩
    have V2 := Lib.hid (V1.out.step hb)
    clear hb V1 cells
    have hbz := Lib.hid (V2.out.setAll [.int .u8 c1, .int .u8 va, .int .u8 vb, .int .u8 vd, .int .i16 nn] rfl)
    go_upto_region 3 with (refine wpList_store_mid rfl 24 (.tmp 2) (.tmp 8) rfl w.heap.size 0 #[.int .u8 c1, .int .u8 va, .int .u8 vb, .int .u8 vd, .int .i16 nn] rfl rfl (there_of_blk V2.out.k ?s1) ?s2 ?s3 ?_)
    case s1 => simp
    case s2 => simpa using I5.out
    case s3 => simp [Value.oneCell']
    generalize w2.setCells w.heap.size 0 _ = w3 at *
    have V1 := hbz
    clear hbz V2
    by_cases h192 : 192 ≤ q
    · have hd192 : decide (192 ≤ (q : Int)) = true := decide_eq_true (by omega)
      have c4 := V1.out.k.cellAt (i := 4) rfl
      have f4 := V1.out.k.unfrozen 4
      go_upto_region 5 with (fail)
      have V2 : Hid (Inv w [.int .u8 c1, .int .u8 va, .int .u8 vb, .int .u8 vd, .int .i16 (IntKind.i16.wrap (nn + 1))] 24 (w3.setCell ⟨w.heap.size, 4, none⟩ (.int .i16 (IntKind.i16.wrap (nn + 1))))) := V1.out.set 4 _
      clear c4 f4 V1
      generalize IntKind.i16.wrap (nn + 1) = n2 at *
      generalize w3.setCell ⟨w.heap.size, 4, none⟩ (.int .i16 n2) = w5 at *
      have V1 := V2
      have hV := V1.out
      have hS := keepS (Below.refl _ _) V1.out
      go_region_held3 (fun w' => Inv w [.int .u8 c1, .int .u8 va, .int .u8 vb, .int .u8 vd, .int .i16 n2] 24 w' ∧ w'.cell? ⟨w.heap.size, 0, none⟩ = some (.int .u8 c1) ∧ w'.cell? ⟨w.heap.size, 1, none⟩ = some (.int .u8 va) ∧ w'.cell? ⟨w.heap.size, 2, none⟩ = some (.int .u8 vb) ∧ w'.cell? ⟨w.heap.size, 3, none⟩ = some (.int .u8 vd) ∧ w'.cell? ⟨w.heap.size, 4, none⟩ = some (.int .i16 n2))
        (first | exact keepS (by assumption) (by first | assumption | exact And.left (by assumption)) | exact keepS (Below.refl _ _) (Inv.drewN (by assumption) 1) | (trace_state; go_keep))
        (first
          | (go_at_call 9; refine (awake_calls _).mono ?_; rintro e w2 ⟨rfl, hb2⟩)
          | (go_at_call 10; refine (HR.out _ _ _ _ _ _).mono ?_; rintro e w3 ⟨rfl, hb3⟩)
          | (go_at_call 11; refine (HQ.out _ _ _ _ _ _).mono ?_; rintro e w4 ⟨rfl, hb4⟩))
      have A4 := Lib.hid ((((hV.drewN 1).step hb2).step hb3).step hb4).b
      clear hS hV hb2 hb3 hb4
      go_wp2
      go_ret
      exact ⟨ret_bool (by simp), A4.out⟩
    · have hd192 : decide (192 ≤ (q : Int)) = false := decide_eq_false (by omega)
      go_upto_region 5 with (fail)
      have hV := V1.out
      have hS := keepS (Below.refl _ _) V1.out
      go_region_held3 (fun w' => Inv w [.int .u8 c1, .int .u8 va, .int .u8 vb, .int .u8 vd, .int .i16 nn] 24 w' ∧ w'.cell? ⟨w.heap.size, 0, none⟩ = some (.int .u8 c1) ∧ w'.cell? ⟨w.heap.size, 1, none⟩ = some (.int .u8 va) ∧ w'.cell? ⟨w.heap.size, 2, none⟩ = some (.int .u8 vb) ∧ w'.cell? ⟨w.heap.size, 3, none⟩ = some (.int .u8 vd) ∧ w'.cell? ⟨w.heap.size, 4, none⟩ = some (.int .i16 nn))
        (first | exact keepS (by assumption) (by first | assumption | exact And.left (by assumption)) | exact keepS (Below.refl _ _) (Inv.drewN (by assumption) 1) | (trace_state; go_keep))
        (first
          | (go_at_call 9; refine (awake_calls _).mono ?_; rintro e w2 ⟨rfl, hb2⟩)
          | (go_at_call 10; refine (HR.out _ _ _ _ _ _).mono ?_; rintro e w3 ⟨rfl, hb3⟩)
          | (go_at_call 11; refine (HQ.out _ _ _ _ _ _).mono ?_; rintro e w4 ⟨rfl, hb4⟩))
      have A4 := Lib.hid ((((hV.drewN 1).step hb2).step hb3).step hb4).b
      clear hS hV hb2 hb3 hb4
      go_wp2
      go_ret
      exact ⟨ret_bool (by simp), A4.out⟩
  · have hd64 : decide (64 ≤ (q : Int)) = false := decide_eq_false (by omega)
    have hd192 : decide (192 ≤ (q : Int)) = false := decide_eq_false (by omega)
    go_upto_region 5 with (fail)
    have hV := V1.out
    have hS := keepS (Below.refl _ _) V1.out
    go_region_held3 (fun w' => Inv w [.int .u8 c, .int .u8 a, .int .u8 b, .int .u8 d, .int .i16 n] 24 w' ∧ w'.cell? ⟨w.heap.size, 0, none⟩ = some (.int .u8 c) ∧ w'.cell? ⟨w.heap.size, 1, none⟩ = some (.int .u8 a) ∧ w'.cell? ⟨w.heap.size, 2, none⟩ = some (.int .u8 b) ∧ w'.cell? ⟨w.heap.size, 3, none⟩ = some (.int .u8 d) ∧ w'.cell? ⟨w.heap.size, 4, none⟩ = some (.int .i16 n))
      (first | exact keepS (by assumption) (by first | assumption | exact And.left (by assumption)) | exact keepS (Below.refl _ _) (Inv.drewN (by assumption) 1) | (trace_state; go_keep))
      (first
        | (go_at_call 9; refine (awake_calls _).mono ?_; rintro e w2 ⟨rfl, hb2⟩)
        | (go_at_call 10; refine (HR.out _ _ _ _ _ _).mono ?_; rintro e w3 ⟨rfl, hb3⟩)
        | (go_at_call 11; refine (HQ.out _ _ _ _ _ _).mono ?_; rintro e w4 ⟨rfl, hb4⟩))
    have A4 := Lib.hid ((((hV.drewN 1).step hb2).step hb3).step hb4).b
    clear hS hV hb2 hb3 hb4
    go_wp2
    go_ret
    exact ⟨ret_bool (by simp), A4.out⟩
end Go.Proofs.Ytbjlldenokdpeaa.Walks
