/- Walks through the functions of the statement, and the statement over them: each contract says what the call answers and that nothing else changes. -/
import Derived.Test.YtjlodddlbgpcdaaDoorProg
import Derived.Test.YtjlodddlbgpcdaaDoorBits
import Derived.Test.YtjlodddlbgpcdaaDoorHeap
import Derived.Test.YtjlodddlbgpcdaaDoorAid
import Derived.Test.YtjlodddlbgpcdaaDoorArr
import Derived.Test.YtjlodddlbgpcdaaDoorEql
import Derived.Test.YtjlodddlbgpcdaaDoorWalkBase
import Derived.Test.YtjlodddlbgpcdaaDoorWalkCode
import Derived.Test.YtjlodddlbgpcdaaDoorWalkSeat
import Derived.Test.YtjlodddlbgpcdaaDoorWalkRef
import Derived.Test.YtjlodddlbgpcdaaDoorWalkRefR
import Derived.Test.YtjlodddlbgpcdaaDoorWalkBus
import Derived.Test.YtjlodddlbgpcdaaDoorWalkBus2
import Derived.Test.YtjlodddlbgpcdaaDoorWalkRefP
import Derived.Test.YtjlodddlbgpcdaaDoorWalkRefG
import Derived.Test.YtjlodddlbgpcdaaDoorWalkRefL
import Derived.Test.YtjlodddlbgpcdaaDoorWalkDo
import Derived.Test.YtjlodddlbgpcdaaDoorWalkDo2
import Derived.Test.YtjlodddlbgpcdaaDoorWalkStep
import Derived.Test.YtjlodddlbgpcdaaDoorWalkSome
import Derived.Test.YtjlodddlbgpcdaaDoorWalkAwake
import Derived.Test.YtjlodddlbgpcdaaDoorWalkNil
import Derived.Test.YtjlodddlbgpcdaaDoorWalkPl
import Derived.Test.YtjlodddlbgpcdaaDoorWalkRs0
import Derived.Test.YtjlodddlbgpcdaaDoorWalkRs1
import Derived.Test.YtjlodddlbgpcdaaDoorWalkRs2
import Derived.Test.YtjlodddlbgpcdaaDoorWalkRs3
import Derived.Test.YtjlodddlbgpcdaaDoorWalkRs4
import Derived.Lib.Hide
import Derived.WalkKit
import Derived.WalkSpells
import Derived.WalkLawsBesides
import Derived.Deep.QuietTactic
import Derived.BigQuiet
import Derived.Deep.RegionHeld3
import Derived.Deep.DeepCutAuto
import Derived.Deep.CutBlock
import Derived.Lib.SlBytesConst
import Derived.StillTailTactics
import Derived.RegionTactic
import Derived.Deep.RegionLaw
import Derived.Laws.BytesString
import Derived.Laws.MakeOwn
import Derived.Deep.AppendLies
import Derived.Laws.CopyOwn
import Derived.Maps.AppendAt
import Derived.Deep.Upon
import Derived.Deep.AppendSrc
import Derived.Shelf.Abstract
import Derived.Shelf.Spec.TrailingZeros
namespace Go.Proofs.YtjlodddlbgpcdaaDoor.Walks
set_option linter.unusedVariables false
set_option linter.unusedSimpArgs false
open Go.RowKit Go.Proofs.YtjlodddlbgpcdaaDoor.Bits Go.Proofs.YtjlodddlbgpcdaaDoor.Heap Go.Proofs.YtjlodddlbgpcdaaDoor.Aid Go.Proofs.YtjlodddlbgpcdaaDoor.Arr Go.Proofs.YtjlodddlbgpcdaaDoor.Eql

theorem ctz_of : ∀ m, m < 256 → m ≠ 0 → Lib.ctz 64 m < 8 ∧ m.testBit (Lib.ctz 64 m) = true := by decide +kernel
theorem andn_bit : ∀ p, p < 256 → ∀ k, k < 8 → p.testBit k = true → andn p (2 ^ k) = p - 2 ^ k ∧ 2 ^ k ≤ p := by decide +kernel
theorem wake_no {y : Se} (h : y.st = 0) : wakeS y = y := by unfold wakeS; rw [if_neg (by omega)]
theorem rs_do {B mb : Nat} {pv : Nat → Value} {M : Me} {w : World} (x : Se) (hx : x.Ok) (h8 : x.Ok8) (s : Mm B mb pv M w) (time me : Int) (hst : x.st = 0) (hln : lineL x = -1) (v : Nat) (hv : v < 2 ^ 32) (hld : loadL M (x.r.getD 17 0) (x.r.getD 16 0) 4 = some v)
    (ht : 0 ≤ time ∧ time < 18446744073709551616) (c a b d : Nat) (n : Int) (hr : rightB c a b d n = true) (hw : wordF c a b d n = v) (qc : (v : Int) / 67108864 = c) (qa : (v : Int) / 4194304 % 16 = a) (qb : (v : Int) / 262144 % 16 = b)
    (q1 : fC (c : Int) = true → (v : Int) % 16 = d ∧ n = 0) (q2 : fC (c : Int) = false → IntKind.i16.wrap ((v : Int) % 65536) = n ∧ d = 0) (hn : -32768 ≤ n ∧ n ≤ 32767) :
    Calls Tryd.prog 18 #[.agg x.cells.toArray, .pointer (some ⟨mb, 0, none⟩), .int .u64 time, .int .i64 me] w (RStepP B mb pv (doL x M time me c a b d n) w) := by
  have h := of_decide_eq_true hr
  obtain ⟨hc, h1, h2, h3, h4, h5⟩ := h
  have ha := oneB_lt h1
  have hb16 := oneB_lt h2
  have hd := oneB_lt h3
  have hc' : c < 23 := by omega
  rcases (show c = 0 ∨ c = 1 ∨ c = 2 ∨ c = 3 ∨ c = 4 ∨ c = 5 ∨ c = 6 ∨ c = 7 ∨ c = 8 ∨ c = 9 ∨ c = 10 ∨ c = 11 ∨ c = 12 ∨ c = 13 ∨ c = 14 ∨ c = 15 ∨ c = 16 ∨ c = 17 ∨ c = 18 ∨ c = 19 ∨ c = 20 ∨ c = 21 ∨ c = 22 by omega) with rfl | rfl | rfl | rfl | rfl | rfl | rfl | rfl | rfl | rfl | rfl | rfl | rfl | rfl | rfl | rfl | rfl | rfl | rfl | rfl | rfl | rfl | rfl
  · obtain ⟨qn, rfl⟩ := q2 rfl
    exact rs_zero x hx h8 s time me hst hln v hv hld a b n ha hb16 hn hr hw qc qa qb qn
  · obtain ⟨qn, rfl⟩ := q2 rfl
    exact rs_li x hx h8 s time me hst hln v hv hld a b n ha hb16 hn hr hw qc qa qb qn
  · obtain ⟨qn, rfl⟩ := q2 rfl
    exact rs_lu x hx h8 s time me hst hln v hv hld a b n ha hb16 hn hr hw qc qa qb qn
  · obtain ⟨qd, rfl⟩ := q1 rfl
    exact rs_sum3 x hx h8 s time me hst hln v hv hld a b d ha hb16 hd hr hw qc qa qb qd
  · obtain ⟨qd, rfl⟩ := q1 rfl
    exact rs_sum4 x hx h8 s time me hst hln v hv hld a b d ha hb16 hd hr hw qc qa qb qd
  · obtain ⟨qd, rfl⟩ := q1 rfl
    exact rs_sum5 x hx h8 s time me hst hln v hv hld a b d ha hb16 hd hr hw qc qa qb qd
  · obtain ⟨qd, rfl⟩ := q1 rfl
    exact rs_sum6 x hx h8 s time me hst hln v hv hld a b d ha hb16 hd hr hw qc qa qb qd
  · obtain ⟨qd, rfl⟩ := q1 rfl
    exact rs_sum7 x hx h8 s time me hst hln v hv hld a b d ha hb16 hd hr hw qc qa qb qd
  · obtain ⟨qd, rfl⟩ := q1 rfl
    exact rs_sum8 x hx h8 s time me hst hln v hv hld a b d ha hb16 hd hr hw qc qa qb qd
  · obtain ⟨qd, rfl⟩ := q1 rfl
    exact rs_sum9 x hx h8 s time me hst hln v hv hld a b d ha hb16 hd hr hw qc qa qb qd
  · obtain ⟨qd, rfl⟩ := q1 rfl
    exact rs_sum10 x hx h8 s time me hst hln v hv hld a b d ha hb16 hd hr hw qc qa qb qd
  · obtain ⟨qn, rfl⟩ := q2 rfl
    exact rs_addi x hx h8 s time me hst hln v hv hld a b n ha hb16 hn hr hw qc qa qb qn
  · obtain ⟨qn, rfl⟩ := q2 rfl
    cases hl : loadL M (x.r.getD 17 0) (addN (x.r.getD b 0) (kN n)) 8 with
    | none =>
      have e : doL x M time me 12 a b 0 n = ⟨trapS x 3 (addN (x.r.getD b 0) (kN n)), M, trapK (trapS x 3 (addN (x.r.getD b 0) (kN n))), 3⟩ := by simp (decide := true) only [doL, hl, if_true, if_false, eq_self_iff_true, Bool.false_eq_true]
      rw [e]
      exact rs_ldBad x hx h8 s time me hst hln v hv hld a b n ha hb16 hn hr hw qc qa qb qn hl
    | some u =>
      have e : doL x M time me 12 a b 0 n = ⟨(x.reg a u).reg 16 (nxN x), M, 0, 0⟩ := by simp (decide := true) only [doL, hl, if_true, if_false, eq_self_iff_true, Bool.false_eq_true]
      rw [e]
      exact rs_ld x hx h8 s time me hst hln v hv hld a b n ha hb16 hn hr hw qc qa qb qn u (loadL_lt s.x hl) hl
  · obtain ⟨qn, rfl⟩ := q2 rfl
    cases hl : saveL M (x.r.getD 17 0) (addN (x.r.getD b 0) (kN n)) (x.r.getD a 0) with
    | none =>
      have e : doL x M time me 13 a b 0 n = ⟨trapS x 4 (addN (x.r.getD b 0) (kN n)), M, trapK (trapS x 4 (addN (x.r.getD b 0) (kN n))), 4⟩ := by simp (decide := true) only [doL, hl, if_true, if_false, eq_self_iff_true, Bool.false_eq_true]
      rw [e]
      exact rs_stBad x hx h8 s time me hst hln v hv hld a b n ha hb16 hn hr hw qc qa qb qn hl
    | some M1 =>
      have e : doL x M time me 13 a b 0 n = ⟨x.reg 16 (nxN x), M1, 0, 0⟩ := by simp (decide := true) only [doL, hl, if_true, if_false, eq_self_iff_true, Bool.false_eq_true]
      rw [e]
      exact rs_st x hx h8 s time me hst hln v hv hld a b n ha hb16 hn hr hw qc qa qb qn M1 hl
  · obtain ⟨qn, rfl⟩ := q2 rfl
    cases hl : takenB 14 (x.r.getD a 0) (x.r.getD b 0) with
    | true =>
      have e : doL x M time me 14 a b 0 n = ⟨x.reg 16 (jmpN (x.r.getD 16 0) (kN n)), M, 0, 0⟩ := by simp (decide := true) only [doL, hl, if_true, if_false, eq_self_iff_true, Bool.false_eq_true]
      rw [e]; exact rs_br14t x hx h8 s time me hst hln v hv hld a b n ha hb16 hn hr hw qc qa qb qn hl
    | false =>
      have e : doL x M time me 14 a b 0 n = ⟨x.reg 16 (nxN x), M, 0, 0⟩ := by simp (decide := true) only [doL, hl, if_true, if_false, eq_self_iff_true, Bool.false_eq_true]
      rw [e]; exact rs_br14f x hx h8 s time me hst hln v hv hld a b n ha hb16 hn hr hw qc qa qb qn hl
  · obtain ⟨qn, rfl⟩ := q2 rfl
    cases hl : takenB 15 (x.r.getD a 0) (x.r.getD b 0) with
    | true =>
      have e : doL x M time me 15 a b 0 n = ⟨x.reg 16 (jmpN (x.r.getD 16 0) (kN n)), M, 0, 0⟩ := by simp (decide := true) only [doL, hl, if_true, if_false, eq_self_iff_true, Bool.false_eq_true]
      rw [e]; exact rs_br15t x hx h8 s time me hst hln v hv hld a b n ha hb16 hn hr hw qc qa qb qn hl
    | false =>
      have e : doL x M time me 15 a b 0 n = ⟨x.reg 16 (nxN x), M, 0, 0⟩ := by simp (decide := true) only [doL, hl, if_true, if_false, eq_self_iff_true, Bool.false_eq_true]
      rw [e]; exact rs_br15f x hx h8 s time me hst hln v hv hld a b n ha hb16 hn hr hw qc qa qb qn hl
  · obtain ⟨qn, rfl⟩ := q2 rfl
    cases hl : takenB 16 (x.r.getD a 0) (x.r.getD b 0) with
    | true =>
      have e : doL x M time me 16 a b 0 n = ⟨x.reg 16 (jmpN (x.r.getD 16 0) (kN n)), M, 0, 0⟩ := by simp (decide := true) only [doL, hl, if_true, if_false, eq_self_iff_true, Bool.false_eq_true]
      rw [e]; exact rs_br16t x hx h8 s time me hst hln v hv hld a b n ha hb16 hn hr hw qc qa qb qn hl
    | false =>
      have e : doL x M time me 16 a b 0 n = ⟨x.reg 16 (nxN x), M, 0, 0⟩ := by simp (decide := true) only [doL, hl, if_true, if_false, eq_self_iff_true, Bool.false_eq_true]
      rw [e]; exact rs_br16f x hx h8 s time me hst hln v hv hld a b n ha hb16 hn hr hw qc qa qb qn hl
  · obtain ⟨qn, rfl⟩ := q2 rfl
    exact rs_jal x hx h8 s time me hst hln v hv hld a b n ha hb16 hn hr hw qc qa qb qn
  · obtain ⟨qn, rfl⟩ := q2 rfl
    have h9 := h5 (.inl rfl)
    cases ho : x.op with
    | true => exact rs_rdt x hx h8 s time me hst hln v hv hld a b n ha hb16 hn hr hw qc qa qb qn h9 ht ho
    | false => exact rs_rdf x hx h8 s time me hst hln v hv hld a b n ha hb16 hn hr hw qc qa qb qn h9 ht ho
  · obtain ⟨qn, rfl⟩ := q2 rfl
    have h9 := h5 (.inr rfl)
    rcases (show n = 0 ∨ n = 1 ∨ n = 2 ∨ n = 3 ∨ n = 4 ∨ n = 5 ∨ n = 6 ∨ n = 7 ∨ n = 8 by omega) with rfl | rfl | rfl | rfl | rfl | rfl | rfl | rfl | rfl
    · have e : doL x M time me 19 a b 0 0 = ⟨(x.reg 17 (x.r.getD a 0)).reg 16 (nxN x), M, 0, 0⟩ := by
        have e1 : setS x (0 : Int).toNat (x.r.getD a 0) = (x.reg 17 (x.r.getD a 0)) := rfl
        have e2 : wakeS (x.reg 17 (x.r.getD a 0)) = (x.reg 17 (x.r.getD a 0)) := wake_no (y := (x.reg 17 (x.r.getD a 0))) hst
        simp (decide := true) only [doL, if_true, if_false, and_self]
        rw [e1, e2]
      rw [e]; exact rs_wr0 x hx h8 s time me hst hln v hv hld a b ha hb16 hr hw qc qa qb qn
    · have e : doL x M time me 19 a b 0 1 = ⟨(x.reg 18 (x.r.getD a 0)).reg 16 (nxN x), M, 0, 0⟩ := by
        have e1 : setS x (1 : Int).toNat (x.r.getD a 0) = (x.reg 18 (x.r.getD a 0)) := rfl
        have e2 : wakeS (x.reg 18 (x.r.getD a 0)) = (x.reg 18 (x.r.getD a 0)) := wake_no (y := (x.reg 18 (x.r.getD a 0))) hst
        simp (decide := true) only [doL, if_true, if_false, and_self]
        rw [e1, e2]
      rw [e]; exact rs_wr1 x hx h8 s time me hst hln v hv hld a b ha hb16 hr hw qc qa qb qn
    · have e : doL x M time me 19 a b 0 2 = ⟨(x.reg 19 (x.r.getD a 0)).reg 16 (nxN x), M, 0, 0⟩ := by
        have e1 : setS x (2 : Int).toNat (x.r.getD a 0) = (x.reg 19 (x.r.getD a 0)) := rfl
        have e2 : wakeS (x.reg 19 (x.r.getD a 0)) = (x.reg 19 (x.r.getD a 0)) := wake_no (y := (x.reg 19 (x.r.getD a 0))) hst
        simp (decide := true) only [doL, if_true, if_false, and_self]
        rw [e1, e2]
      rw [e]; exact rs_wr2 x hx h8 s time me hst hln v hv hld a b ha hb16 hr hw qc qa qb qn
    · have e : doL x M time me 19 a b 0 3 = ⟨(x.reg 20 (x.r.getD a 0)).reg 16 (nxN x), M, 0, 0⟩ := by
        have e1 : setS x (3 : Int).toNat (x.r.getD a 0) = (x.reg 20 (x.r.getD a 0)) := rfl
        have e2 : wakeS (x.reg 20 (x.r.getD a 0)) = (x.reg 20 (x.r.getD a 0)) := wake_no (y := (x.reg 20 (x.r.getD a 0))) hst
        simp (decide := true) only [doL, if_true, if_false, and_self]
        rw [e1, e2]
      rw [e]; exact rs_wr3 x hx h8 s time me hst hln v hv hld a b ha hb16 hr hw qc qa qb qn
    · have e : doL x M time me 19 a b 0 4 = ⟨(x.reg 21 (x.r.getD a 0)).reg 16 (nxN x), M, 0, 0⟩ := by
        have e1 : setS x (4 : Int).toNat (x.r.getD a 0) = (x.reg 21 (x.r.getD a 0)) := rfl
        have e2 : wakeS (x.reg 21 (x.r.getD a 0)) = (x.reg 21 (x.r.getD a 0)) := wake_no (y := (x.reg 21 (x.r.getD a 0))) hst
        simp (decide := true) only [doL, if_true, if_false, and_self]
        rw [e1, e2]
      rw [e]; exact rs_wr4 x hx h8 s time me hst hln v hv hld a b ha hb16 hr hw qc qa qb qn
    · have e : doL x M time me 19 a b 0 5 = ⟨({ x with ma := x.r.getD a 0 % 256 } : Se).reg 16 (nxN x), M, 0, 0⟩ := by
        have e1 : setS x (5 : Int).toNat (x.r.getD a 0) = ({ x with ma := x.r.getD a 0 % 256 } : Se) := rfl
        have e2 : wakeS ({ x with ma := x.r.getD a 0 % 256 } : Se) = ({ x with ma := x.r.getD a 0 % 256 } : Se) := wake_no (y := ({ x with ma := x.r.getD a 0 % 256 } : Se)) hst
        simp (decide := true) only [doL, if_true, if_false, and_self]
        rw [e1, e2]
      rw [e]; exact rs_wr5 x hx h8 s time me hst hln v hv hld a b ha hb16 hr hw qc qa qb qn
    · have e : doL x M time me 19 a b 0 6 = ⟨({ x with op := decide (x.r.getD a 0 % 2 = 1) } : Se).reg 16 (nxN x), M, 0, 0⟩ := by
        have e1 : setS x (6 : Int).toNat (x.r.getD a 0) = ({ x with op := decide (x.r.getD a 0 % 2 = 1) } : Se) := rfl
        have e2 : wakeS ({ x with op := decide (x.r.getD a 0 % 2 = 1) } : Se) = ({ x with op := decide (x.r.getD a 0 % 2 = 1) } : Se) := wake_no (y := ({ x with op := decide (x.r.getD a 0 % 2 = 1) } : Se)) hst
        simp (decide := true) only [doL, if_true, if_false, and_self]
        rw [e1, e2]
      rw [e]; exact rs_wr6 x hx h8 s time me hst hln v hv hld a b ha hb16 hr hw qc qa qb qn
    · have e : doL x M time me 19 a b 0 7 = ⟨trapS x 1 (x.r.getD 16 0), M, trapK (trapS x 1 (x.r.getD 16 0)), 1⟩ := by simp (decide := true) only [doL, if_true, if_false, and_self]
      rw [e]; exact rs_wr7 x hx h8 s time me hst hln v hv hld a b ha hb16 hr hw qc qa qb qn
    · have e : doL x M time me 19 a b 0 8 = ⟨trapS x 1 (x.r.getD 16 0), M, trapK (trapS x 1 (x.r.getD 16 0)), 1⟩ := by simp (decide := true) only [doL, if_true, if_false, and_self]
      rw [e]; exact rs_wr8 x hx h8 s time me hst hln v hv hld a b ha hb16 hr hw qc qa qb qn
  · obtain ⟨qn, rfl⟩ := q2 rfl
    exact rs_hvc x hx h8 s time me hst hln v hv hld a b n ha hb16 hn hr hw qc qa qb qn
  · obtain ⟨qn, rfl⟩ := q2 rfl
    by_cases hz : x.pe &&& x.ma = 0
    · have e : doL x M time me 21 a b 0 n = ⟨{ x.reg 16 (nxN x) with st := 1 }, M, 3, 0⟩ := by simp (decide := true) only [doL, hz, if_true, if_false]
      rw [e]; exact rs_wfia x hx h8 s time me hst hln v hv hld a b n ha hb16 hn hr hw qc qa qb qn hz
    · have e : doL x M time me 21 a b 0 n = ⟨x.reg 16 (nxN x), M, 0, 0⟩ := by simp (decide := true) only [doL, hz, if_true, if_false]
      rw [e]; exact rs_wfib x hx h8 s time me hst hln v hv hld a b n ha hb16 hn hr hw qc qa qb qn hz
  · obtain ⟨qn, rfl⟩ := q2 rfl
    exact rs_ret x hx h8 s time me hst hln v hv hld a b n ha hb16 hn hr hw qc qa qb qn
theorem rs_bad {B mb : Nat} {pv : Nat → Value} {M : Me} {w : World} (x : Se) (hx : x.Ok) (h8 : x.Ok8) (s : Mm B mb pv M w) (time me : Int) (hst : x.st = 0) (hln : lineL x = -1) (v : Nat) (hv : v < 2 ^ 32) (hld : loadL M (x.r.getD 17 0) (x.r.getD 16 0) 4 = some v) (hd : decOk v = false) :
    Calls Tryd.prog 18 #[.agg x.cells.toArray, .pointer (some ⟨mb, 0, none⟩), .int .u64 time, .int .i64 me] w (RStepP B mb pv ⟨trapS x 1 v, M, trapK (trapS x 1 v), 1⟩ w) := by
  have qc : (v : Int) / 67108864 = (dC v : Nat) := by unfold dC; omega
  have qa : (v : Int) / 4194304 % 16 = (dA v : Nat) := by unfold dA; omega
  have qb : (v : Int) / 262144 % 16 = (dB v : Nat) := by unfold dB; omega
  have ha : dA v < 16 := by unfold dA; omega
  have hb : dB v < 16 := by unfold dB; omega
  have hc : dC v < 256 := by unfold dC; omega
  have qn : IntKind.i16.wrap ((v : Int) % 65536) = IntKind.i16.wrap ((v / 2 ^ 0 % 2 ^ 16 : Nat) : Int) := by congr 1; omega
  have qd : (v : Int) % 16 = ((v / 2 ^ 0 % 2 ^ 4 : Nat) : Int) := by omega
  rcases Nat.lt_or_ge (dC v) 23 with h23 | h23
  · cases hf : fC (dC v : Int) with
    | true =>
      have eD : dD v = v / 2 ^ 0 % 2 ^ 4 := by unfold dD; rw [hf, if_pos rfl]
      have eN : dN v = 0 := by unfold dN; rw [hf, if_pos rfl]
      rw [← eD] at qd
      have hdd : dD v < 16 := by rw [eD]; omega
      cases hr : rightB (dC v : Int) (dA v : Int) (dB v : Int) ((dD v : Nat) : Int) 0 with
      | false => exact rs_badBt x hx h8 s time me hst hln v hv hld (dC v) (dA v) (dB v) _ hc ha hb qc qa qb qn h23 hf (dD v) hdd qd hr
      | true =>
        refine rs_badCt x hx h8 s time me hst hln v hv hld (dC v) (dA v) (dB v) _ hc ha hb qc qa qb qn h23 hf (dD v) hdd qd hr (fun e => ?_)
        unfold decOk at hd
        rw [eN, hr, encW_right hr, e] at hd
        simp at hd
    | false =>
      have eD : dD v = 0 := by unfold dD; rw [hf, if_neg (by simp)]
      have eN : dN v = IntKind.i16.wrap ((v / 2 ^ 0 % 2 ^ 16 : Nat) : Int) := by unfold dN; rw [hf, if_neg (by simp)]
      rw [← eN] at qn
      cases hr : rightB (dC v : Int) (dA v : Int) (dB v : Int) ((0 : Nat) : Int) (dN v) with
      | false => exact rs_badBf x hx h8 s time me hst hln v hv hld (dC v) (dA v) (dB v) _ hc ha hb qc qa qb qn h23 hf hr
      | true =>
        refine rs_badCf x hx h8 s time me hst hln v hv hld (dC v) (dA v) (dB v) _ hc ha hb qc qa qb qn h23 hf hr (fun e => ?_)
        unfold decOk at hd
        rw [eD, hr, encW_right hr, e] at hd
        simp at hd
  · exact rs_badA x hx h8 s time me hst hln v hv hld (dC v) (dA v) (dB v) _ hc ha hb qc qa qb qn h23
set_option maxRecDepth 8000 in
theorem refStep_calls {B mb : Nat} {pv : Nat → Value} {M : Me} {w : World} (x : Se) (hx : x.Ok) (h8 : x.Ok8) (s : Mm B mb pv M w) (time me : Int) (ht : 0 ≤ time ∧ time < 18446744073709551616) :
    Calls Tryd.prog 18 #[.agg x.cells.toArray, .pointer (some ⟨mb, 0, none⟩), .int .u64 time, .int .i64 me] w (RStepP B mb pv (stepL x M time me) w) := by
  unfold stepL
  by_cases hst : x.st = 0
  · rw [if_neg (by omega)]
    by_cases hn : nextB x = true
    · rw [if_pos hn]
      have hm : x.pe &&& x.ma < 256 := Nat.and_lt_two_pow (n := 8) _ h8.m
      have hn' := hn
      unfold nextB at hn'
      simp only [Bool.and_eq_true, decide_eq_true_eq] at hn'
      obtain ⟨k8, kb⟩ := ctz_of _ hm hn'.2
      rw [Nat.testBit_and, Bool.and_eq_true] at kb
      obtain ⟨e1, e2⟩ := andn_bit _ h8.p _ k8 kb.1
      have eT : takeS x = { x with pe := x.pe - 2 ^ Lib.ctz 64 (x.pe &&& x.ma) } := by unfold takeS; rw [if_pos hn, e1]
      have eN : nextN x = (Lib.ctz 64 (x.pe &&& x.ma) : Int) := by unfold nextN; rw [if_pos hn]
      have eL : lineL x = (Lib.ctz 64 (x.pe &&& x.ma) : Int) := by unfold lineL; rw [if_pos hn, eN]
      rw [eT, eN, Int.toNat_natCast]
      exact rs_line x hx h8 s time me hst _ k8 eL e2
    · rw [if_neg hn]
      have hln : lineL x = -1 := by unfold lineL; rw [if_neg hn]
      cases hld : loadL M (x.r.getD 17 0) (x.r.getD 16 0) 4 with
      | none => exact rs_fetch x hx h8 s time me hst hln hld
      | some v =>
        dsimp only
        have hv : v < 2 ^ 32 := loadL4_lt s.x hld
        by_cases hd : decOk v = true
        · rw [if_pos hd]
          have hd' := hd
          unfold decOk at hd'
          rw [Bool.and_eq_true] at hd'
          obtain ⟨hr, hw⟩ := hd'
          have hw' := of_decide_eq_true hw
          rw [encW_right hr] at hw'
          refine rs_do x hx h8 s time me hst hln v hv hld ht (dC v) (dA v) (dB v) (dD v) (dN v) hr hw' (by unfold dC; omega) (by unfold dA; omega) (by unfold dB; omega) (fun hf => ?_) (fun hf => ?_) ?_
          · unfold dD dN; rw [hf, if_pos rfl, if_pos rfl]; exact ⟨by omega, rfl⟩
          · unfold dD dN; rw [hf, if_neg (by simp), if_neg (by simp)]; exact ⟨by congr 1; omega, rfl⟩
          · unfold dN; split
            · decide
            · exact wrap16_bounds _
        · rw [if_neg hd]
          exact rs_bad x hx h8 s time me hst hln v hv hld (by simpa using hd)
  · rw [if_pos hst]
    exact rs_idle x hx s time me hst
theorem ok8_reg {x : Se} (h : x.Ok8) (a v : Nat) : (x.reg a v).Ok8 := ⟨h.p, h.m⟩
theorem ok8_trap {x : Se} (h : x.Ok8) (c a : Nat) : (trapS x c a).Ok8 := by
  unfold trapS
  split
  · exact ⟨h.p, h.m⟩
  · exact ⟨h.p, h.m⟩
theorem ok8_wake {x : Se} (h : x.Ok8) : (wakeS x).Ok8 := by
  unfold wakeS
  split
  · exact ⟨h.p, h.m⟩
  · exact h
theorem ok8_set {x : Se} (h : x.Ok8) (k v : Nat) : (setS x k v).Ok8 := by
  unfold setS
  split
  · exact ⟨h.p, h.m⟩
  · split
    · exact ⟨h.p, by show v % 256 < 256; omega⟩
    · exact ⟨h.p, h.m⟩
theorem ok8_take {x : Se} (h : x.Ok8) : (takeS x).Ok8 := by
  unfold takeS
  split
  · refine ⟨?_, h.m⟩
    show andn x.pe _ < 256
    rename_i hn
    unfold nextB at hn
    simp only [Bool.and_eq_true, decide_eq_true_eq] at hn
    obtain ⟨k8, kb⟩ := ctz_of _ (Nat.and_lt_two_pow (n := 8) _ h.m) hn.2
    rw [Nat.testBit_and, Bool.and_eq_true] at kb
    rw [(andn_bit _ h.p _ k8 kb.1).1]
    exact Nat.lt_of_le_of_lt (Nat.sub_le _ _) h.p
  · exact h
theorem ite_out {P : Out → Prop} {c : Prop} [Decidable c] {a b : Out} (h1 : c → P a) (h2 : ¬ c → P b) : P (if c then a else b) := by
  by_cases h : c
  · rw [if_pos h]; exact h1 h
  · rw [if_neg h]; exact h2 h
def Ok88 (o : Out) : Prop := o.x.Ok ∧ o.x.Ok8
theorem doL_ok {x : Se} {M : Me} (hx : x.Ok) (h8 : x.Ok8) (hM : ∀ i, ∀ y ∈ M.p i, y < 256) (time me : Int) (ht : 0 ≤ time ∧ time < 18446744073709551616) (c a b d : Nat) (n : Int) :
    Ok88 (doL x M time me c a b d n) := by
  have key : ∀ (v q : Nat) (N : Me) (k n : Nat), v < 2 ^ 64 → q < 2 ^ 64 → Ok88 ⟨(x.reg a v).reg 16 q, N, k, n⟩ := fun v q N k n hv hq => ⟨(hx.reg hv).reg hq, ok8_reg (ok8_reg h8 a v) 16 q⟩
  have one : ∀ (q : Nat) (N : Me) (k n : Nat), q < 2 ^ 64 → Ok88 ⟨x.reg 16 q, N, k, n⟩ := fun q N k n hq => ⟨hx.reg hq, ok8_reg h8 16 q⟩
  have tr : ∀ (c u : Nat) (N : Me) (k n : Nat), c < 2 ^ 64 → u < 2 ^ 64 → Ok88 ⟨trapS x c u, N, k, n⟩ := fun c u N k n hc hu => ⟨trap_ok hx hc hu, ok8_trap h8 c u⟩
  unfold doL
  refine ite_out (fun _ => key _ _ _ _ _ (kN_lt n) (nx_lt x)) (fun _ => ?_)
  refine ite_out (fun _ => key _ _ _ _ _ (wth_lt (getD_lt hx a) 16 48 _) (nx_lt x)) (fun _ => ?_)
  refine ite_out (fun _ => key _ _ _ _ _ (sumN_lt _ _ _) (nx_lt x)) (fun _ => ?_)
  refine ite_out (fun _ => key _ _ _ _ _ (addN_lt _ _) (nx_lt x)) (fun _ => ?_)
  refine ite_out (fun _ => ?_) (fun _ => ?_)
  · cases hl : loadL M (x.r.getD 17 0) (addN (x.r.getD b 0) (kN n)) 8 with
    | some u => exact key _ _ _ _ _ (loadL_lt hM hl) (nx_lt x)
    | none => exact tr _ _ _ _ _ (by decide) (addN_lt _ _)
  refine ite_out (fun _ => ?_) (fun _ => ?_)
  · cases hl : saveL M (x.r.getD 17 0) (addN (x.r.getD b 0) (kN n)) (x.r.getD a 0) with
    | some u => exact one _ _ _ _ (nx_lt x)
    | none => exact tr _ _ _ _ _ (by decide) (addN_lt _ _)
  refine ite_out (fun _ => ?_) (fun _ => ?_)
  · refine one _ _ _ _ ?_
    split
    · exact jmp_lt _ _
    · exact nx_lt x
  refine ite_out (fun _ => key _ _ _ _ _ (nx_lt x) (addN_lt _ _)) (fun _ => ?_)
  refine ite_out (fun _ => key _ _ _ _ _ (getN_lt hx ht) (nx_lt x)) (fun _ => ?_)
  refine ite_out (fun _ => ?_) (fun _ => ?_)
  · refine ite_out (fun _ => ?_) (fun _ => tr _ _ _ _ _ (by decide) (getD_lt hx 16))
    exact ⟨(wake_ok (setS_ok hx (getD_lt hx a))).reg (nx_lt x), ok8_reg (ok8_wake (ok8_set h8 _ _)) 16 _⟩
  refine ite_out (fun _ => one _ _ _ _ (nx_lt x)) (fun _ => ?_)
  refine ite_out (fun _ => ?_) (fun _ => ?_)
  · refine ite_out (fun _ => ?_) (fun _ => one _ _ _ _ (nx_lt x))
    have h1 := one _ M 0 0 (nx_lt x)
    exact ⟨⟨h1.1.l, h1.1.w, by show 1 < 256; omega, h1.1.p, h1.1.m⟩, ⟨h1.2.p, h1.2.m⟩⟩
  refine ite_out (fun _ => ⟨back_ok hx, ⟨h8.p, h8.m⟩⟩) (fun _ => one _ _ _ _ (nx_lt x))
theorem stepL_ok {x : Se} {M : Me} (hx : x.Ok) (h8 : x.Ok8) (hM : ∀ i, ∀ y ∈ M.p i, y < 256) (time me : Int) (ht : 0 ≤ time ∧ time < 18446744073709551616) : (stepL x M time me).x.Ok ∧ (stepL x M time me).x.Ok8 := by
  unfold stepL
  split
  · exact ⟨hx, h8⟩
  split
  · rename_i hn
    have hk : (nextN x).toNat < 256 := by
      unfold nextN
      rw [if_pos hn]
      unfold nextB at hn
      simp only [Bool.and_eq_true, decide_eq_true_eq] at hn
      have := (ctz_of _ (Nat.and_lt_two_pow (n := 8) _ h8.m) hn.2).1
      omega
    exact ⟨trap_ok (take_ok hx) (by omega) (by decide), ok8_trap (ok8_take h8) _ _⟩
  split
  · exact ⟨trap_ok hx (by decide) (getD_lt hx 16), ok8_trap h8 _ _⟩
  · rename_i v hl
    split
    · exact doL_ok hx h8 hM time me ht _ _ _ _ _
    · exact ⟨trap_ok hx (by decide) (Nat.lt_trans (loadL4_lt hM hl) (by decide)), ok8_trap h8 _ _⟩
def strOf (l : List Nat) : ByteArray := ⟨(l.map UInt8.ofNat).toArray⟩
theorem strOf_inj {l m : List Nat} (hl : ∀ x ∈ l, x < 256) (hm : ∀ x ∈ m, x < 256) (h : strOf l = strOf m) : l = m := by
  have h1 : l.map UInt8.ofNat = m.map UInt8.ofNat := by
    have := congrArg (fun b : ByteArray => b.data.toList) h
    simpa [strOf] using this
  have h2 : ∀ l : List Nat, (∀ x ∈ l, x < 256) → (l.map UInt8.ofNat).map UInt8.toNat = l := by
    intro l
    induction l with
    | nil => intro _; rfl
    | cons x r ih =>
      intro h
      rw [List.map_cons, List.map_cons, ih (fun y hy => h y (by simp [hy]))]
      congr 1
      have := h x (by simp)
      simp
      omega
  rw [← h2 l hl, ← h2 m hm, h1]
/-- 'string(b)'. -/
theorem run_string {P : Program} (w : World) (src dst e : TypeId) (hs : P.underlying src = some (.slice e)) (he : P.underlying e = some (.int .u8)) (hd : P.underlying dst = some .string) (v : Value) (l : List Nat) (hr : Row w enc8 v l) :
    (convert src dst v).run P w = .ok (.string (strOf l)) w := by
  rcases hr with ⟨rfl, rfl⟩ | ⟨a, cap, rfl, hc, hcell⟩
  · rw [run_convert_bytes_string w src dst e _ 0 0 hs he hd]
    simp [Conv.bytesToString]
    rfl
  · rw [run_convert_bytes_string w src dst e _ _ cap hs he hd]
    have hl := run_loadCells_list (P := P) w a ((l.map fun x : Nat => (x : Int)).map (Value.int .u8)) (fun j v hj => by
      rw [List.map_map, List.getElem?_map] at hj
      obtain ⟨x, hx, rfl⟩ := Option.map_eq_some_iff.1 hj
      exact hcell j x hx)
    rw [List.length_map, List.length_map] at hl
    rw [run_bytesToString w a l.length cap _ hl]
    congr 2
    have : ∀ (l : List Nat) (s : ByteArray), (l.map fun x : Nat => (x : Int)).foldl (fun r n => r.push (UInt8.ofNat n.toNat)) s = ⟨s.data ++ (l.map UInt8.ofNat).toArray⟩ := by
      intro l
      induction l with
      | nil => intro s; simp
      | cons x r ih =>
        intro s
        rw [List.map_cons, List.foldl_cons, ih]
        simp [ByteArray.push]
    rw [this]
    simp [strOf, ByteArray.empty, ByteArray.emptyWithCapacity]
    try rfl
set_option maxHeartbeats 2000000 in
theorem mem_same {B B2 ma mb : Nat} {pa pb : Nat → Value} {M : Me} {w : World} (sa : Mm B ma pa M w) (sb : Mm B2 mb pb M w) :
    Calls Tryd.prog 19 #[.pointer (some ⟨ma, 0, none⟩), .pointer (some ⟨mb, 0, none⟩)] w fun e w' => e = .returned (.bool true) ∧ Below w.heap.size w w' := by
  have CA := Lib.hid (fun (i : Nat) (hi : i < 32) (n : Nat) => show (w.drewN n).cell? ⟨ma, i, none⟩ = some (pa i) from sa.cell hi)
  have CB := Lib.hid (fun (i : Nat) (hi : i < 32) (n : Nat) => show (w.drewN n).cell? ⟨mb, i, none⟩ = some (pb i) from sb.cell hi)
  have SA := Lib.hid (fun (i : Nat) (hi : i < 32) (n : Nat) => run_string (P := Tryd.prog) (w.drewN n) 28 9 5 Tryd.underlying28 Tryd.underlying5 Tryd.underlying9 _ _ ((row_owns (sa.r i hi)).drewN n))
  have SB := Lib.hid (fun (i : Nat) (hi : i < 32) (n : Nat) => run_string (P := Tryd.prog) (w.drewN n) 28 9 5 Tryd.underlying28 Tryd.underlying5 Tryd.underlying9 _ _ ((row_owns (sb.r i hi)).drewN n))
  clear sa sb
  generalize hS : (fun i => strOf (M.p i)) = Sf at *
  have SA2 : Hid (∀ (i : Nat), i < 32 → ∀ n : Nat, (convert 28 9 (pa i)).run Tryd.prog (w.drewN n) = .ok (.string (Sf i)) (w.drewN n)) := by subst hS; exact SA.out
  have SB2 : Hid (∀ (i : Nat), i < 32 → ∀ n : Nat, (convert 28 9 (pb i)).run Tryd.prog (w.drewN n) = .ok (.string (Sf i)) (w.drewN n)) := by subst hS; exact SB.out
  clear SA SB hS
  go_enter Tryd.func19, Tryd.ntmps19
  go_upto_region 2 with (fail)
  go_loopw [5] (fun vi wr => ∃ k : Nat, k ≤ 32 ∧ vi = .int .i64 k ∧ ∃ n, wr = w.drewN n) (fun vi _ => 32 - (intOf vi).toNat)
  case atStart => exact ⟨0, Nat.zero_le _, rfl, 0, rfl⟩
  case round =>
    obtain ⟨k, hk, rfl, m, hm⟩ := hrel
    by_cases hlt : k < 32
    · have hki : (k : Int) ≤ 31 := by omega
      have hk0 : 0 ≤ (k : Int) := by omega
      have ca := CA.out k hlt m
      have cb := CB.out k hlt m
      have s1 : ∀ n, (convert 28 9 (pa k)).run Tryd.prog (wr.drewN n) = .ok (.string (Sf k)) (wr.drewN n) := fun n => by rw [hm, World.drewN_drewN]; exact SA2.out k hlt (m + n)
      have s2 : ∀ n, (convert 28 9 (pb k)).run Tryd.prog (wr.drewN n) = .ok (.string (Sf k)) (wr.drewN n) := fun n => by rw [hm, World.drewN_drewN]; exact SB2.out k hlt (m + n)
      rw [← hm] at ca cb
      have HM := Lib.hid hm
      clear hm CA CB SA2 SB2
      generalize pa k = va at *
      generalize pb k = vb at *
      generalize Sf k = S at *
      go_wp2
      go_quiet (fail)
      go_wp2
      all_goals exact ⟨⟨k + 1, by omega, by go_num, m + nq, by rw [HM.out, World.drewN_drewN]⟩, by simp only [intOf]; omega⟩
    · have e : k = 32 := by omega
      subst e
      clear CA CB SA2 SB2
      go_wp2
      go_ret
      exact ⟨rfl, by first | exact below_drewN (Below.refl _ _) m | (rw [hm]; exact below_drewN (Below.refl _ _) m)⟩
/-- What 'both' has: the seat that came, the one that is told, the one that the program steps; two memories. -/
structure Bo (ma mb : Nat) (pa pb : Nat → Value) (x y : Se) (M N : Me) (w0 w W : World) : Prop where
  k : Keep (fun g => PG pa g ∨ PG pb g) w W
  c : Blk W w.heap.size x.cells 26
  z : Blk W (w.heap.size + 1) zeroSe.cells 26
  t : Blk W (w.heap.size + 1 + 1) y.cells 26
  s : S2 ma mb pa pb M N w0 W
  f : ∀ g, Mm.F ma pa g ∨ Mm.F mb pb g → g < w.heap.size
  o : w0.heap.size ≤ w.heap.size
theorem Bo.step {ma mb : Nat} {pa pb : Nat → Value} {x y : Se} {M N : Me} {w0 w W W' : World} (h : Bo ma mb pa pb x y M N w0 w W) (b : Below W.heap.size W W') : Bo ma mb pa pb x y M N w0 w W' :=
  ⟨h.k.step (Keep.of_below (S := fun _ => False) b) (fun _ _ e => e.elim), h.c.below b h.c.lt, h.z.below b h.z.lt, h.t.below b h.t.lt, h.s.below b, h.f, h.o⟩
theorem Bo.pa {ma mb : Nat} {pa pb : Nat → Value} {x y : Se} {M N : Me} {w0 w W : World} (h : Bo ma mb pa pb x y M N w0 w W) {g : Nat} (hg : PG pa g) : g < w.heap.size := h.f g (.inl (.inr hg))
theorem Bo.pb {ma mb : Nat} {pa pb : Nat → Value} {x y : Se} {M N : Me} {w0 w W : World} (h : Bo ma mb pa pb x y M N w0 w W) {g : Nat} (hg : PG pb g) : g < w.heap.size := h.f g (.inr (.inr hg))
theorem S2.base {ma mb : Nat} {pa pb : Nat → Value} {M N : Me} {w0 w : World} (s : S2 ma mb pa pb M N w0 w) {g : Nat} (hg : PG pa g ∨ PG pb g) : w0.heap.size ≤ g := by
  rcases hg with ⟨i, hi, e⟩ | ⟨i, hi, e⟩
  · exact (World.ownsRow.lt (s.a.r i hi) g e).1
  · exact (World.ownsRow.lt (s.b.r i hi) g e).1
/-- The program steps. -/
theorem Bo.doA {ma mb : Nat} {pa pb : Nat → Value} {x y : Se} {M N : Me} {w0 w W W' : World} {o : Out} {e : Ending} (h : Bo ma mb pa pb x y M N w0 w W) (d : DoP w0.heap.size (w.heap.size + 1 + 1) ma pa o W e W') : Bo ma mb pa pb x o.x o.M N w0 w W' := by
  obtain ⟨_, hb, hm, hk⟩ := d
  refine ⟨h.k.step hk (fun i hi q => by rcases q with q | q; omega; exact .inl q), h.c.keep hk (fun q => by rcases q with q | q; omega; have := h.pa q; omega), h.z.keep hk (fun q => by rcases q with q | q; omega; have := h.pa q; omega), hb,
    ⟨hm, h.s.b.keep hk (fun g hg q => ?_), h.s.ap, Keep.belowB h.s.bel hk h.s.bel.size (fun i hi q => ?_)⟩, h.f, h.o⟩
  · rcases q with q | q
    · have := h.f g (.inr hg); omega
    · exact h.s.ap g (.inr q) hg
  · rcases q with q | q
    · have := h.o; omega
    · have := h.s.base (.inl q); omega
/-- The reference steps. -/
theorem Bo.doB {ma mb : Nat} {pa pb : Nat → Value} {x y : Se} {M N : Me} {w0 w W W' : World} {o : Out} {e : Ending} (h : Bo ma mb pa pb x y M N w0 w W) (d : RStepP w0.heap.size mb pb o W e W') : Bo ma mb pa pb x y M o.M w0 w W' := by
  obtain ⟨_, hm, hk⟩ := d
  refine ⟨h.k.step hk (fun i hi q => .inr q), h.c.keep hk (fun q => by have := h.pb q; omega), h.z.keep hk (fun q => by have := h.pb q; omega), h.t.keep hk (fun q => by have := h.pb q; omega),
    ⟨h.s.a.keep hk (fun g hg q => h.s.ap g hg (.inr q)), hm, h.s.ap, Keep.belowB h.s.bel hk h.s.bel.size (fun i hi q => by have := h.s.base (.inr q); omega)⟩, h.f, h.o⟩
theorem Bo.new {ma mb : Nat} {pa pb : Nat → Value} (x : Se) {M N : Me} {w0 w : World} (s : S2 ma mb pa pb M N w0 w) :
    Bo ma mb pa pb x zeroSe M N w0 w (((w.alloc (.cells x.cells.toArray 26)).alloc (.cells zeroSe.cells.toArray 26)).alloc (.cells zeroSe.cells.toArray 26)) := by
  have e1 : (w.alloc (.cells x.cells.toArray 26)).heap.size = w.heap.size + 1 := by simp
  have e2 : ((w.alloc (.cells x.cells.toArray 26)).alloc (.cells zeroSe.cells.toArray 26)).heap.size = w.heap.size + 1 + 1 := by simp
  have k1 := ((Blk.new w x.cells.toArray 26).alloc (.cells zeroSe.cells.toArray 26)).alloc (.cells zeroSe.cells.toArray 26)
  have k2 := (Blk.new (w.alloc (.cells x.cells.toArray 26)) zeroSe.cells.toArray 26).alloc (.cells zeroSe.cells.toArray 26)
  have k3 := Blk.new ((w.alloc (.cells x.cells.toArray 26)).alloc (.cells zeroSe.cells.toArray 26)) zeroSe.cells.toArray 26
  rw [e1] at k2
  rw [e2] at k3
  have b1 : Below w.heap.size w (((w.alloc (.cells x.cells.toArray 26)).alloc (.cells zeroSe.cells.toArray 26)).alloc (.cells zeroSe.cells.toArray 26)) := (((Below.refl _ _).alloc (Nat.le_refl _) _).alloc (by simp) _).alloc (by simp; omega) _
  exact ⟨Keep.of_below b1, k1, k2, k3, s.below b1, fun g hg => by rcases hg with hg | hg; exact (Mm.F.lt s.a hg).2; exact (Mm.F.lt s.b hg).2, s.bel.size⟩
theorem Bo.not {ma mb : Nat} {pa pb : Nat → Value} {x y : Se} {M N : Me} {w0 w W : World} (h : Bo ma mb pa pb x y M N w0 w W) {g : Nat} (hg : w.heap.size ≤ g) : ¬ Mm.F ma pa g ∧ ¬ Mm.F mb pb g := ⟨fun e => by have := h.f g (.inl e); omega, fun e => by have := h.f g (.inr e); omega⟩
/-- The program's seat is stored whole. -/
theorem Bo.setT {ma mb : Nat} {pa pb : Nat → Value} {x y z : Se} {M N : Me} {w0 w W : World} (h : Bo ma mb pa pb x y M N w0 w W) (hy : y.Ok) (hz : z.Ok) : Bo ma mb pa pb x z M N w0 w (W.setCells (w.heap.size + 1 + 1) 0 z.cells) := by
  have hk : Keep (fun g => g = w.heap.size + 1 + 1) W (W.setCells (w.heap.size + 1 + 1) 0 z.cells) := keep_setCells (Keep.refl (fun g => g = w.heap.size + 1 + 1) W) (fun _ => rfl) 0 z.cells
  have ho := h.o
  exact ⟨h.k.step hk (fun i hi q => by omega), h.c.keep hk (by omega), h.z.keep hk (by omega), blk_setAll h.t (by rw [hz.len, hy.len]),
    ⟨h.s.a.keep hk (fun g hg q => (h.not (g := g) (by omega)).1 hg), h.s.b.keep hk (fun g hg q => (h.not (g := g) (by omega)).2 hg), h.s.ap, Keep.belowB h.s.bel hk h.s.bel.size (fun i hi q => by omega)⟩, h.f, h.o⟩
/-- The end of 'both'. -/
def BothP (ma mb : Nat) (pa pb : Nat → Value) (o : Out) (w0 w : World) (e : Ending) (w' : World) : Prop :=
  e = .returned (.tuple #[.agg o.x.cells.toArray, .bool true]) ∧ S2 ma mb pa pb o.M o.M w0 w' ∧ Keep (fun g => PG pa g ∨ PG pb g) w w'
theorem Bo.fin {ma mb : Nat} {pa pb : Nat → Value} {x y : Se} {M : Me} {w0 w W : World} (h : Bo ma mb pa pb x y M M w0 w W) (hy : y.Ok) :
    (S2 ma mb pa pb M M w0 (W.setCells (w.heap.size + 1) 0 y.cells) ∧ Keep (fun g => PG pa g ∨ PG pb g) w (W.setCells (w.heap.size + 1) 0 y.cells)) ∧ (W.setCells (w.heap.size + 1) 0 y.cells).rangeAt (w.heap.size + 1) 0 y.cells := by
  have hk : Keep (fun g => g = w.heap.size + 1) W (W.setCells (w.heap.size + 1) 0 y.cells) := keep_setCells (Keep.refl (fun g => g = w.heap.size + 1) W) (fun _ => rfl) 0 y.cells
  have ho := h.o
  exact ⟨⟨⟨h.s.a.keep hk (fun g hg q => (h.not (g := g) (by omega)).1 hg), h.s.b.keep hk (fun g hg q => (h.not (g := g) (by omega)).2 hg), h.s.ap, Keep.belowB h.s.bel hk h.s.bel.size (fun i hi q => by omega)⟩, h.k.step hk (fun i hi q => by omega)⟩,
    range_all (blk_setAll h.z (by rw [hy.len]; exact zero_ok.len.symm))⟩
end Go.Proofs.YtjlodddlbgpcdaaDoor.Walks
