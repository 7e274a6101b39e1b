/- Walks through the functions of the statement, and the statement over them: each contract says what the call answers and that nothing else changes. -/
import Derived.Test.YthgccppclkkohaaProg
import Derived.Test.YthgccppclkkohaaWalkSeat
import Derived.Test.YthgccppclkkohaaWalkSeat2
import Derived.Test.YthgccppclkkohaaBits
import Derived.Test.YthgccppclkkohaaHeap
import Derived.Test.YthgccppclkkohaaAid
import Derived.Lib.Hide
import Derived.Test.YthgccppclkkohaaArr
import Derived.Test.YthgccppclkkohaaEql
import Derived.WalkKit
import Derived.WalkSpells
import Derived.WalkLawsBesides
import Derived.Deep.QuietTactic
import Derived.BigQuiet
import Derived.Deep.RegionHeld3
import Derived.Deep.DeepCutAuto
import Derived.Deep.CutBlock
import Derived.Lib.SlBytesConst
import Derived.StillTailTactics
import Derived.Laws.MakeOwn
import Derived.Deep.AppendLies
import Derived.RegionTactic
import Derived.Deep.RegionLaw
namespace Go.Proofs.Ythgccppclkkohaa.Walks
set_option linter.unusedVariables false
set_option linter.unusedSimpArgs false
open Go.RowKit Go.Proofs.Ythgccppclkkohaa.Bits Go.Proofs.Ythgccppclkkohaa.Heap Go.Proofs.Ythgccppclkkohaa.Aid Go.Proofs.Ythgccppclkkohaa.Arr Go.Proofs.Ythgccppclkkohaa.Eql


set_option maxHeartbeats 1000000 in
theorem get0 (x : Se) (h : x.Ok) (time me : Int) (w : World) : Calls Try.prog 20 #[.agg x.cells.toArray, .int .i64 0, .int .u64 time, .int .i64 me] w fun e w' => e = .returned (.tuple #[.int .u64 ((x.r.getD 17 0 : Nat) : Int), .bool true]) ∧ Below w.heap.size w w' := by
  have G := Lib.hid (h.gr (i := 17) (by omega))
  generalize ((x.r.getD 17 0 : Nat) : Int) = g at *
  have X1 : Hid (Own w w.heap.size x.cells 26 (w.alloc (.cells x.cells.toArray 26))) := Own.newL (Below.refl _ _) _ _
  generalize x.cells = XC at *
  go_enter Try.func20, Try.ntmps20
  go_upto_region 1 with (fail)
  generalize w.alloc (.cells XC.toArray 26) = w1 at *
  have c := X1.out.cell G.out
  go_wp2
  go_ret2
  exact ⟨rfl, X1.out.bel⟩

set_option maxHeartbeats 1000000 in
theorem get1 (x : Se) (h : x.Ok) (time me : Int) (w : World) : Calls Try.prog 20 #[.agg x.cells.toArray, .int .i64 1, .int .u64 time, .int .i64 me] w fun e w' => e = .returned (.tuple #[.int .u64 ((x.r.getD 18 0 : Nat) : Int), .bool true]) ∧ Below w.heap.size w w' := by
  have G := Lib.hid (h.gr (i := 18) (by omega))
  generalize ((x.r.getD 18 0 : Nat) : Int) = g at *
  have X1 : Hid (Own w w.heap.size x.cells 26 (w.alloc (.cells x.cells.toArray 26))) := Own.newL (Below.refl _ _) _ _
  generalize x.cells = XC at *
  go_enter Try.func20, Try.ntmps20
  go_upto_region 1 with (fail)
  generalize w.alloc (.cells XC.toArray 26) = w1 at *
  have c := X1.out.cell G.out
  go_wp2
  go_ret2
  exact ⟨rfl, X1.out.bel⟩

set_option maxHeartbeats 1000000 in
theorem get2 (x : Se) (h : x.Ok) (time me : Int) (w : World) : Calls Try.prog 20 #[.agg x.cells.toArray, .int .i64 2, .int .u64 time, .int .i64 me] w fun e w' => e = .returned (.tuple #[.int .u64 ((x.r.getD 19 0 : Nat) : Int), .bool true]) ∧ Below w.heap.size w w' := by
  have G := Lib.hid (h.gr (i := 19) (by omega))
  generalize ((x.r.getD 19 0 : Nat) : Int) = g at *
  have X1 : Hid (Own w w.heap.size x.cells 26 (w.alloc (.cells x.cells.toArray 26))) := Own.newL (Below.refl _ _) _ _
  generalize x.cells = XC at *
  go_enter Try.func20, Try.ntmps20
  go_upto_region 1 with (fail)
  generalize w.alloc (.cells XC.toArray 26) = w1 at *
  have c := X1.out.cell G.out
  go_wp2
  go_ret2
  exact ⟨rfl, X1.out.bel⟩

set_option maxHeartbeats 1000000 in
theorem get3 (x : Se) (h : x.Ok) (time me : Int) (w : World) : Calls Try.prog 20 #[.agg x.cells.toArray, .int .i64 3, .int .u64 time, .int .i64 me] w fun e w' => e = .returned (.tuple #[.int .u64 ((x.r.getD 20 0 : Nat) : Int), .bool true]) ∧ Below w.heap.size w w' := by
  have G := Lib.hid (h.gr (i := 20) (by omega))
  generalize ((x.r.getD 20 0 : Nat) : Int) = g at *
  have X1 : Hid (Own w w.heap.size x.cells 26 (w.alloc (.cells x.cells.toArray 26))) := Own.newL (Below.refl _ _) _ _
  generalize x.cells = XC at *
  go_enter Try.func20, Try.ntmps20
  go_upto_region 1 with (fail)
  generalize w.alloc (.cells XC.toArray 26) = w1 at *
  have c := X1.out.cell G.out
  go_wp2
  go_ret2
  exact ⟨rfl, X1.out.bel⟩

set_option maxHeartbeats 1000000 in
theorem get4 (x : Se) (h : x.Ok) (time me : Int) (w : World) : Calls Try.prog 20 #[.agg x.cells.toArray, .int .i64 4, .int .u64 time, .int .i64 me] w fun e w' => e = .returned (.tuple #[.int .u64 ((x.r.getD 21 0 : Nat) : Int), .bool true]) ∧ Below w.heap.size w w' := by
  have G := Lib.hid (h.gr (i := 21) (by omega))
  generalize ((x.r.getD 21 0 : Nat) : Int) = g at *
  have X1 : Hid (Own w w.heap.size x.cells 26 (w.alloc (.cells x.cells.toArray 26))) := Own.newL (Below.refl _ _) _ _
  generalize x.cells = XC at *
  go_enter Try.func20, Try.ntmps20
  go_upto_region 1 with (fail)
  generalize w.alloc (.cells XC.toArray 26) = w1 at *
  have c := X1.out.cell G.out
  go_wp2
  go_ret2
  exact ⟨rfl, X1.out.bel⟩

set_option maxHeartbeats 1000000 in
theorem get5 (x : Se) (h : x.Ok) (time me : Int) (w : World) : Calls Try.prog 20 #[.agg x.cells.toArray, .int .i64 5, .int .u64 time, .int .i64 me] w fun e w' => e = .returned (.tuple #[.int .u64 (x.ma : Int), .bool true]) ∧ Below w.heap.size w w' := by
  have G := Lib.hid h.g25
  have hm0 : 0 ≤ (x.ma : Int) := by omega
  have hm1 : (x.ma : Int) < 18446744073709551616 := by have := h.m; omega
  generalize (x.ma : Int) = g at *
  have X1 : Hid (Own w w.heap.size x.cells 26 (w.alloc (.cells x.cells.toArray 26))) := Own.newL (Below.refl _ _) _ _
  generalize x.cells = XC at *
  go_enter Try.func20, Try.ntmps20
  go_upto_region 1 with (fail)
  generalize w.alloc (.cells XC.toArray 26) = w1 at *
  have c := X1.out.cell G.out
  go_wp2
  go_ret2
  exact ⟨rfl, X1.out.bel⟩

set_option maxHeartbeats 1000000 in
theorem get6 (x : Se) (h : x.Ok) (time me : Int) (w : World) : Calls Try.prog 20 #[.agg x.cells.toArray, .int .i64 6, .int .u64 time, .int .i64 me] w fun e w' => e = .returned (.tuple #[.int .u64 ((flagN x.op : Nat) : Int), .bool true]) ∧ Below w.heap.size w w' := by
  have G := Lib.hid h.g22
  have FL := Lib.hid (fun W => flag_calls x.op W)
  generalize ((flagN x.op : Nat) : Int) = g at *
  have X1 : Hid (Own w w.heap.size x.cells 26 (w.alloc (.cells x.cells.toArray 26))) := Own.newL (Below.refl _ _) _ _
  generalize x.cells = XC at *
  go_enter Try.func20, Try.ntmps20
  go_upto_region 1 with (fail)
  generalize w.alloc (.cells XC.toArray 26) = w1 at *
  have c := X1.out.cell G.out
  go_wp2_with (go_at_call 22; refine (FL.out _).mono ?_; rintro e wf ⟨rfl, rfl⟩)
  go_ret2
  exact ⟨rfl, X1.out.bel⟩

set_option maxHeartbeats 1000000 in
theorem get7 (x : Se) (h : x.Ok) (time me : Int) (w : World) : Calls Try.prog 20 #[.agg x.cells.toArray, .int .i64 7, .int .u64 time, .int .i64 me] w fun e w' => e = .returned (.tuple #[.int .u64 time, .bool true]) ∧ Below w.heap.size w w' := by
  have X1 : Hid (Own w w.heap.size x.cells 26 (w.alloc (.cells x.cells.toArray 26))) := Own.newL (Below.refl _ _) _ _
  generalize x.cells = XC at *
  go_enter Try.func20, Try.ntmps20
  go_upto_region 1 with (fail)
  generalize w.alloc (.cells XC.toArray 26) = w1 at *
  go_wp2
  go_ret2
  exact ⟨rfl, X1.out.bel⟩

set_option maxHeartbeats 1000000 in
theorem get8 (x : Se) (h : x.Ok) (time me : Int) (w : World) : Calls Try.prog 20 #[.agg x.cells.toArray, .int .i64 8, .int .u64 time, .int .i64 me] w fun e w' => e = .returned (.tuple #[.int .u64 (IntKind.u64.wrap me), .bool true]) ∧ Below w.heap.size w w' := by
  have X1 : Hid (Own w w.heap.size x.cells 26 (w.alloc (.cells x.cells.toArray 26))) := Own.newL (Below.refl _ _) _ _
  generalize x.cells = XC at *
  go_enter Try.func20, Try.ntmps20
  go_upto_region 1 with (fail)
  generalize w.alloc (.cells XC.toArray 26) = w1 at *
  go_wp2
  go_ret2
  exact ⟨rfl, X1.out.bel⟩

set_option maxHeartbeats 1000000 in
theorem get_out (cs : List Value) (n time me : Int) (hn : ¬ (0 ≤ n ∧ n ≤ 8)) (w : World) : Calls Try.prog 20 #[.agg cs.toArray, .int .i64 n, .int .u64 time, .int .i64 me] w fun e w' => e = .returned (.tuple #[.int .u64 0, .bool false]) ∧ Below w.heap.size w w' := by
  have n0 : (n == 0) = false := by rw [beq_eq_false_iff_ne]; omega
  have n1 : (n == 1) = false := by rw [beq_eq_false_iff_ne]; omega
  have n2 : (n == 2) = false := by rw [beq_eq_false_iff_ne]; omega
  have n3 : (n == 3) = false := by rw [beq_eq_false_iff_ne]; omega
  have n4 : (n == 4) = false := by rw [beq_eq_false_iff_ne]; omega
  have n5 : (n == 5) = false := by rw [beq_eq_false_iff_ne]; omega
  have n6 : (n == 6) = false := by rw [beq_eq_false_iff_ne]; omega
  have n7 : (n == 7) = false := by rw [beq_eq_false_iff_ne]; omega
  have n8 : (n == 8) = false := by rw [beq_eq_false_iff_ne]; omega
  have X1 : Hid (Own w w.heap.size cs 26 (w.alloc (.cells cs.toArray 26))) := Own.newL (Below.refl _ _) _ _
  clear hn
  go_enter Try.func20, Try.ntmps20
  go_upto_region 1 with (fail)
  generalize w.alloc (.cells cs.toArray 26) = w1 at *
  go_wp2
  go_ret2
  exact ⟨rfl, X1.out.bel⟩
set_option maxHeartbeats 1000000 in
theorem set_out (n v : Int) (hn : ¬ (0 ≤ n ∧ n ≤ 6)) (b : Nat) (w : World) : Calls Try.prog 19 #[.pointer (some ⟨b, 0, none⟩), .int .i64 n, .int .u64 v] w fun e w' => e = .returned (.bool false) ∧ w = w' := by
  have n0 : (n == 0) = false := by rw [beq_eq_false_iff_ne]; omega
  have n1 : (n == 1) = false := by rw [beq_eq_false_iff_ne]; omega
  have n2 : (n == 2) = false := by rw [beq_eq_false_iff_ne]; omega
  have n3 : (n == 3) = false := by rw [beq_eq_false_iff_ne]; omega
  have n4 : (n == 4) = false := by rw [beq_eq_false_iff_ne]; omega
  have n5 : (n == 5) = false := by rw [beq_eq_false_iff_ne]; omega
  have n6 : (n == 6) = false := by rw [beq_eq_false_iff_ne]; omega
  clear hn
  go_enter Try.func19, Try.ntmps19
  go_wp2
  go_ret
  exact ⟨rfl, rfl⟩
def setS (x : Se) (k v : Nat) : Se := if k < 5 then { x with r := x.r.set (17 + k) v } else if k = 5 then { x with ma := v % 256 } else { x with op := decide (v % 2 = 1) }
theorem setS_ok {x : Se} (h : x.Ok) {k v : Nat} (hv : v < 2 ^ 64) : (setS x k v).Ok := by
  unfold setS
  split
  · exact ⟨by simp [h.l], set_lt h.w hv, h.s, h.p, h.m⟩
  · split
    · exact ⟨h.l, h.w, h.s, h.p, by show v % 256 < 2 ^ 32; omega⟩
    · exact ⟨h.l, h.w, h.s, h.p, h.m⟩
theorem and255 {v : Nat} (hv : v < 2 ^ 64) : bits .and .u64 (v : Int) 255 = ((v % 256 : Nat) : Int) := by
  rw [show (255 : Int) = ((255 : Nat) : Int) from rfl, bits_and (k := .u64) rfl hv (by decide), show (255 : Nat) = 2 ^ 8 - 1 from rfl, Nat.and_two_pow_sub_one_eq_mod]
theorem and1 {v : Nat} (hv : v < 2 ^ 64) : bits .and .u64 (v : Int) 1 = ((v % 2 : Nat) : Int) := by
  rw [show (1 : Int) = ((1 : Nat) : Int) from rfl, bits_and (k := .u64) rfl hv (by decide), show (1 : Nat) = 2 ^ 1 - 1 from rfl, Nat.and_two_pow_sub_one_eq_mod]

set_option maxHeartbeats 1000000 in
theorem set0 (x : Se) (h : x.Ok) (v : Nat) (hv : v < 2 ^ 64) (b : Nat) (w : World) (hb : Blk w b x.cells 26) : Calls Try.prog 19 #[.pointer (some ⟨b, 0, none⟩), .int .i64 0, .int .u64 (v : Int)] w fun e w' => e = .returned (.bool true) ∧ Upd b (setS x 0 v).cells 26 w w' := by
  rw [show (setS x 0 v).cells = ({ x with r := x.r.set 17 v } : Se).cells from rfl]
  have U := Lib.hid ((Upd.same hb).set 17 (.int .u64 (v : Int)))
  rw [h.sr (i := 17) (by omega) v] at U
  have fr := hb.unfrozen 17
  have hc := hb.cellAt (h.gr (i := 17) (by omega))
  generalize (v : Int) = vi at *
  go_enter Try.func19, Try.ntmps19
  go_wp2
  go_ret
  exact ⟨rfl, U.out⟩

set_option maxHeartbeats 1000000 in
theorem set1 (x : Se) (h : x.Ok) (v : Nat) (hv : v < 2 ^ 64) (b : Nat) (w : World) (hb : Blk w b x.cells 26) : Calls Try.prog 19 #[.pointer (some ⟨b, 0, none⟩), .int .i64 1, .int .u64 (v : Int)] w fun e w' => e = .returned (.bool true) ∧ Upd b (setS x 1 v).cells 26 w w' := by
  rw [show (setS x 1 v).cells = ({ x with r := x.r.set 18 v } : Se).cells from rfl]
  have U := Lib.hid ((Upd.same hb).set 18 (.int .u64 (v : Int)))
  rw [h.sr (i := 18) (by omega) v] at U
  have fr := hb.unfrozen 18
  have hc := hb.cellAt (h.gr (i := 18) (by omega))
  generalize (v : Int) = vi at *
  go_enter Try.func19, Try.ntmps19
  go_wp2
  go_ret
  exact ⟨rfl, U.out⟩

set_option maxHeartbeats 1000000 in
theorem set2 (x : Se) (h : x.Ok) (v : Nat) (hv : v < 2 ^ 64) (b : Nat) (w : World) (hb : Blk w b x.cells 26) : Calls Try.prog 19 #[.pointer (some ⟨b, 0, none⟩), .int .i64 2, .int .u64 (v : Int)] w fun e w' => e = .returned (.bool true) ∧ Upd b (setS x 2 v).cells 26 w w' := by
  rw [show (setS x 2 v).cells = ({ x with r := x.r.set 19 v } : Se).cells from rfl]
  have U := Lib.hid ((Upd.same hb).set 19 (.int .u64 (v : Int)))
  rw [h.sr (i := 19) (by omega) v] at U
  have fr := hb.unfrozen 19
  have hc := hb.cellAt (h.gr (i := 19) (by omega))
  generalize (v : Int) = vi at *
  go_enter Try.func19, Try.ntmps19
  go_wp2
  go_ret
  exact ⟨rfl, U.out⟩

set_option maxHeartbeats 1000000 in
theorem set3 (x : Se) (h : x.Ok) (v : Nat) (hv : v < 2 ^ 64) (b : Nat) (w : World) (hb : Blk w b x.cells 26) : Calls Try.prog 19 #[.pointer (some ⟨b, 0, none⟩), .int .i64 3, .int .u64 (v : Int)] w fun e w' => e = .returned (.bool true) ∧ Upd b (setS x 3 v).cells 26 w w' := by
  rw [show (setS x 3 v).cells = ({ x with r := x.r.set 20 v } : Se).cells from rfl]
  have U := Lib.hid ((Upd.same hb).set 20 (.int .u64 (v : Int)))
  rw [h.sr (i := 20) (by omega) v] at U
  have fr := hb.unfrozen 20
  have hc := hb.cellAt (h.gr (i := 20) (by omega))
  generalize (v : Int) = vi at *
  go_enter Try.func19, Try.ntmps19
  go_wp2
  go_ret
  exact ⟨rfl, U.out⟩

set_option maxHeartbeats 1000000 in
theorem set4 (x : Se) (h : x.Ok) (v : Nat) (hv : v < 2 ^ 64) (b : Nat) (w : World) (hb : Blk w b x.cells 26) : Calls Try.prog 19 #[.pointer (some ⟨b, 0, none⟩), .int .i64 4, .int .u64 (v : Int)] w fun e w' => e = .returned (.bool true) ∧ Upd b (setS x 4 v).cells 26 w w' := by
  rw [show (setS x 4 v).cells = ({ x with r := x.r.set 21 v } : Se).cells from rfl]
  have U := Lib.hid ((Upd.same hb).set 21 (.int .u64 (v : Int)))
  rw [h.sr (i := 21) (by omega) v] at U
  have fr := hb.unfrozen 21
  have hc := hb.cellAt (h.gr (i := 21) (by omega))
  generalize (v : Int) = vi at *
  go_enter Try.func19, Try.ntmps19
  go_wp2
  go_ret
  exact ⟨rfl, U.out⟩

set_option maxHeartbeats 1000000 in
theorem set5 (x : Se) (h : x.Ok) (v : Nat) (hv : v < 2 ^ 64) (b : Nat) (w : World) (hb : Blk w b x.cells 26) : Calls Try.prog 19 #[.pointer (some ⟨b, 0, none⟩), .int .i64 5, .int .u64 (v : Int)] w fun e w' => e = .returned (.bool true) ∧ Upd b (setS x 5 v).cells 26 w w' := by
  rw [show (setS x 5 v).cells = ({ x with ma := v % 256 } : Se).cells from rfl]
  have U := Lib.hid ((Upd.same hb).set 25 (.int .u32 ((v % 256 : Nat) : Int)))
  rw [h.s25 (v % 256)] at U
  have fr := hb.unfrozen 25
  have hc := hb.cellAt (h.g25)
  have ha := and255 hv
  have q0 : 0 ≤ ((v % 256 : Nat) : Int) := by omega
  have q1 : ((v % 256 : Nat) : Int) < 4294967296 := by omega
  generalize ((v % 256 : Nat) : Int) = q at *
  generalize (v : Int) = vi at *
  go_enter Try.func19, Try.ntmps19
  go_wp2
  go_ret
  exact ⟨rfl, U.out⟩

set_option maxHeartbeats 1000000 in
theorem set6 (x : Se) (h : x.Ok) (v : Nat) (hv : v < 2 ^ 64) (b : Nat) (w : World) (hb : Blk w b x.cells 26) : Calls Try.prog 19 #[.pointer (some ⟨b, 0, none⟩), .int .i64 6, .int .u64 (v : Int)] w fun e w' => e = .returned (.bool true) ∧ Upd b (setS x 6 v).cells 26 w w' := by
  rw [show (setS x 6 v).cells = ({ x with op := decide (v % 2 = 1) } : Se).cells from rfl]
  have U := Lib.hid ((Upd.same hb).set 22 (.bool (decide (v % 2 = 1))))
  rw [h.s22 (decide (v % 2 = 1))] at U
  have fr := hb.unfrozen 22
  have hc := hb.cellAt (h.g22)
  have ha := and1 hv
  have q0 : (((v % 2 : Nat) : Int) == 1) = decide (v % 2 = 1) := by rw [Bool.eq_iff_iff, beq_iff_eq, decide_eq_true_iff]; omega
  generalize decide (v % 2 = 1) = bq at *
  generalize ((v % 2 : Nat) : Int) = q at *
  generalize (v : Int) = vi at *
  go_enter Try.func19, Try.ntmps19
  go_wp2
  go_ret
  exact ⟨rfl, U.out⟩

theorem setS_get {x : Se} (h : x.Ok) {k v : Nat} (hk : k < 5) : (setS x k v).r.getD (17 + k) 0 = v := by
  have hl := h.l
  unfold setS
  rw [if_pos hk]
  show (x.r.set (17 + k) v).getD (17 + k) 0 = v
  rw [List.getD_eq_getElem?_getD, List.getElem?_set, if_pos rfl, if_pos (by omega)]
  rfl
end Go.Proofs.Ythgccppclkkohaa.Walks
