/- Walks through the functions of the statement, and the statement over them: each contract says what the call answers and that nothing else changes. -/
import Derived.Test.YtjlodddlbgpcdaaDoorProg
import Derived.Test.YtjlodddlbgpcdaaDoorBits
import Derived.Test.YtjlodddlbgpcdaaDoorHeap
import Derived.Test.YtjlodddlbgpcdaaDoorAid
import Derived.Test.YtjlodddlbgpcdaaDoorArr
import Derived.Test.YtjlodddlbgpcdaaDoorEql
import Derived.Test.YtjlodddlbgpcdaaDoorWalkBase
import Derived.Test.YtjlodddlbgpcdaaDoorWalkCode
import Derived.Test.YtjlodddlbgpcdaaDoorWalkSeat
import Derived.Test.YtjlodddlbgpcdaaDoorWalkRef
import Derived.Test.YtjlodddlbgpcdaaDoorWalkRefR
import Derived.Test.YtjlodddlbgpcdaaDoorWalkBus
import Derived.Test.YtjlodddlbgpcdaaDoorWalkBus2
import Derived.Test.YtjlodddlbgpcdaaDoorWalkRefP
import Derived.Test.YtjlodddlbgpcdaaDoorWalkRefG
import Derived.Test.YtjlodddlbgpcdaaDoorWalkRefL
import Derived.Test.YtjlodddlbgpcdaaDoorWalkDo
import Derived.Test.YtjlodddlbgpcdaaDoorWalkDo2
import Derived.Lib.Hide
import Derived.WalkKit
import Derived.WalkSpells
import Derived.WalkLawsBesides
import Derived.Deep.QuietTactic
import Derived.BigQuiet
import Derived.Deep.RegionHeld3
import Derived.Deep.DeepCutAuto
import Derived.Deep.CutBlock
import Derived.Lib.SlBytesConst
import Derived.StillTailTactics
import Derived.RegionTactic
import Derived.Deep.RegionLaw
import Derived.Laws.BytesString
import Derived.Laws.MakeOwn
import Derived.Deep.AppendLies
import Derived.Laws.CopyOwn
import Derived.Maps.AppendAt
import Derived.Deep.Upon
import Derived.Deep.AppendSrc
import Derived.Shelf.Abstract
import Derived.Shelf.Spec.TrailingZeros
namespace Go.Proofs.YtjlodddlbgpcdaaDoor.Walks
set_option linter.unusedVariables false
set_option linter.unusedSimpArgs false
open Go.RowKit Go.Proofs.YtjlodddlbgpcdaaDoor.Bits Go.Proofs.YtjlodddlbgpcdaaDoor.Heap Go.Proofs.YtjlodddlbgpcdaaDoor.Aid Go.Proofs.YtjlodddlbgpcdaaDoor.Arr Go.Proofs.YtjlodddlbgpcdaaDoor.Eql

def getN (x : Se) (n time me : Int) : Nat :=
  if n < 5 then x.r.getD (17 + n.toNat) 0 else if n = 5 then x.ma else if n = 6 then flagN x.op else if n = 7 then time.toNat else (IntKind.u64.wrap me).toNat
/-- One instruction. -/
def doL (x : Se) (M : Me) (time me : Int) (c a b d : Nat) (n : Int) : Out :=
  if c = 1 then ⟨(x.reg a (kN n)).reg 16 (nxN x), M, 0, 0⟩
  else if c = 2 then ⟨(x.reg a (wth (x.r.getD a 0) 16 48 (kN n))).reg 16 (nxN x), M, 0, 0⟩
  else if 3 ≤ c ∧ c ≤ 10 then ⟨(x.reg a (sumN c (x.r.getD b 0) (x.r.getD d 0))).reg 16 (nxN x), M, 0, 0⟩
  else if c = 11 then ⟨(x.reg a (addN (x.r.getD b 0) (kN n))).reg 16 (nxN x), M, 0, 0⟩
  else if c = 12 then (match loadL M (x.r.getD 17 0) (addN (x.r.getD b 0) (kN n)) 8 with
    | some v => ⟨(x.reg a v).reg 16 (nxN x), M, 0, 0⟩
    | none => ⟨trapS x 3 (addN (x.r.getD b 0) (kN n)), M, trapK (trapS x 3 (addN (x.r.getD b 0) (kN n))), 3⟩)
  else if c = 13 then (match saveL M (x.r.getD 17 0) (addN (x.r.getD b 0) (kN n)) (x.r.getD a 0) with
    | some M1 => ⟨x.reg 16 (nxN x), M1, 0, 0⟩
    | none => ⟨trapS x 4 (addN (x.r.getD b 0) (kN n)), M, trapK (trapS x 4 (addN (x.r.getD b 0) (kN n))), 4⟩)
  else if 14 ≤ c ∧ c ≤ 16 then ⟨x.reg 16 (if takenB c (x.r.getD a 0) (x.r.getD b 0) = true then jmpN (x.r.getD 16 0) (kN n) else nxN x), M, 0, 0⟩
  else if c = 17 then ⟨(x.reg a (nxN x)).reg 16 (addN (x.r.getD b 0) (kN n)), M, 0, 0⟩
  else if c = 18 then ⟨(x.reg a (getN x n time me)).reg 16 (nxN x), M, 0, 0⟩
  else if c = 19 then (if 0 ≤ n ∧ n ≤ 6 then ⟨(wakeS (setS x n.toNat (x.r.getD a 0))).reg 16 (nxN x), M, 0, 0⟩ else ⟨trapS x 1 (x.r.getD 16 0), M, trapK (trapS x 1 (x.r.getD 16 0)), 1⟩)
  else if c = 20 then ⟨x.reg 16 (nxN x), M, 2, kN n⟩
  else if c = 21 then (if x.pe &&& x.ma = 0 then ⟨{ x.reg 16 (nxN x) with st := 1 }, M, 3, 0⟩ else ⟨x.reg 16 (nxN x), M, 0, 0⟩)
  else if c = 22 then ⟨backS x, M, 0, 0⟩
  else ⟨x.reg 16 (nxN x), M, 0, 0⟩
theorem oneB_lt {k : Bool} {r : Nat} (h : oneB k (r : Int) = true) : r < 16 := by
  unfold oneB at h
  have := of_decide_eq_true h
  rcases this with h | ⟨_, h⟩ <;> omega
theorem getN_lt {x : Se} (hx : x.Ok) {n time me : Int} (ht : 0 ≤ time ∧ time < 18446744073709551616) : getN x n time me < 2 ^ 64 := by
  unfold getN
  split
  · exact getD_lt hx _
  · split
    · have := hx.m; omega
    · split
      · unfold flagN; split <;> omega
      · split
        · omega
        · rw [wrap_u64]; omega
theorem get_all (x : Se) (hx : x.Ok) (n time me : Int) (hn : 0 ≤ n ∧ n < 9) (ht : 0 ≤ time ∧ time < 18446744073709551616) (W : World) : Calls Tryd.prog 39 #[.agg x.cells.toArray, .int .i64 n, .int .u64 time, .int .i64 me] W fun e w' => e = .returned (.tuple #[.int .u64 ((getN x n time me : Nat) : Int), .bool true]) ∧ Below W.heap.size W w' := by
  rcases (show n = 0 ∨ n = 1 ∨ n = 2 ∨ n = 3 ∨ n = 4 ∨ n = 5 ∨ n = 6 ∨ n = 7 ∨ n = 8 by omega) with rfl | rfl | rfl | rfl | rfl | rfl | rfl | rfl | rfl
  · exact get0 x hx time me W
  · exact get1 x hx time me W
  · exact get2 x hx time me W
  · exact get3 x hx time me W
  · exact get4 x hx time me W
  · exact get5 x hx time me W
  · exact get6 x hx time me W
  · have h := get7 x hx time me W
    rw [show ((getN x 7 time me : Nat) : Int) = time by unfold getN; rw [if_neg (by decide), if_neg (by decide), if_neg (by decide), if_pos rfl]; omega]
    exact h
  · have h := get8 x hx time me W
    rw [show ((getN x 8 time me : Nat) : Int) = IntKind.u64.wrap me by unfold getN; rw [if_neg (by decide), if_neg (by decide), if_neg (by decide), if_neg (by decide)]; rw [wrap_u64]; omega]
    exact h
theorem do_calls {B sb mb : Nat} {pv : Nat → Value} {M : Me} {w : World} (x : Se) (hx : x.Ok) (hb : Blk w sb x.cells 26) (s : Mm B mb pv M w) (ap : Apt sb mb pv) (time me : Int) (ht : 0 ≤ time ∧ time < 18446744073709551616) (c a b d : Nat) (n : Int) (hr : rightB c a b d n = true) (hn : -32768 ≤ n ∧ n ≤ 32767) :
    Calls Tryd.prog 24 #[.agg (cpuA sb mb time me), .agg (opA c a b d n)] w (DoP B sb mb pv (doL x M time me c a b d n) w) := by
  have h := of_decide_eq_true hr
  obtain ⟨hc, h1, h2, h3, h4, h5⟩ := h
  have ha := oneB_lt h1
  have hb16 := oneB_lt h2
  have hd := oneB_lt h3
  have hc' : c < 23 := by omega
  rcases (show c = 0 ∨ c = 1 ∨ c = 2 ∨ c = 3 ∨ c = 4 ∨ c = 5 ∨ c = 6 ∨ c = 7 ∨ c = 8 ∨ c = 9 ∨ c = 10 ∨ c = 11 ∨ c = 12 ∨ c = 13 ∨ c = 14 ∨ c = 15 ∨ c = 16 ∨ c = 17 ∨ c = 18 ∨ c = 19 ∨ c = 20 ∨ c = 21 ∨ c = 22 by omega) with rfl | rfl | rfl | rfl | rfl | rfl | rfl | rfl | rfl | rfl | rfl | rfl | rfl | rfl | rfl | rfl | rfl | rfl | rfl | rfl | rfl | rfl | rfl
  · exact do_zero x hx hb s ap time me a b d n ha hb16 hn
  · exact do_li x hx hb s ap time me a b d n ha hb16 hn
  · exact do_lu x hx hb s ap time me a b d n ha hb16 hn
  · exact do_sum3 x hx hb s ap time me a b d n ha hb16 hn hd
  · exact do_sum4 x hx hb s ap time me a b d n ha hb16 hn hd
  · exact do_sum5 x hx hb s ap time me a b d n ha hb16 hn hd
  · exact do_sum6 x hx hb s ap time me a b d n ha hb16 hn hd
  · exact do_sum7 x hx hb s ap time me a b d n ha hb16 hn hd
  · exact do_sum8 x hx hb s ap time me a b d n ha hb16 hn hd
  · exact do_sum9 x hx hb s ap time me a b d n ha hb16 hn hd
  · exact do_sum10 x hx hb s ap time me a b d n ha hb16 hn hd
  · exact do_addi x hx hb s ap time me a b d n ha hb16 hn
  · cases hl : loadL M (x.r.getD 17 0) (addN (x.r.getD b 0) (kN n)) 8 with
    | none =>
      have e : doL x M time me 12 a b d n = ⟨trapS x 3 (addN (x.r.getD b 0) (kN n)), M, trapK (trapS x 3 (addN (x.r.getD b 0) (kN n))), 3⟩ := by simp (decide := true) only [doL, hl, if_true, if_false, eq_self_iff_true, Bool.false_eq_true]
      rw [e]
      exact do_ldBad x hx hb s ap time me a b d n ha hb16 hn hl
    | some v =>
      have e : doL x M time me 12 a b d n = ⟨(x.reg a v).reg 16 (nxN x), M, 0, 0⟩ := by simp (decide := true) only [doL, hl, if_true, if_false, eq_self_iff_true, Bool.false_eq_true]
      rw [e]
      exact do_ld x hx hb s ap time me a b d n ha hb16 hn v (loadL_lt s.x hl) hl
  · cases hl : saveL M (x.r.getD 17 0) (addN (x.r.getD b 0) (kN n)) (x.r.getD a 0) with
    | none =>
      have e : doL x M time me 13 a b d n = ⟨trapS x 4 (addN (x.r.getD b 0) (kN n)), M, trapK (trapS x 4 (addN (x.r.getD b 0) (kN n))), 4⟩ := by simp (decide := true) only [doL, hl, if_true, if_false, eq_self_iff_true, Bool.false_eq_true]
      rw [e]
      exact do_stBad x hx hb s ap time me a b d n ha hb16 hn hl
    | some M1 =>
      have e : doL x M time me 13 a b d n = ⟨x.reg 16 (nxN x), M1, 0, 0⟩ := by simp (decide := true) only [doL, hl, if_true, if_false, eq_self_iff_true, Bool.false_eq_true]
      rw [e]
      exact do_st x hx hb s ap time me a b d n ha hb16 hn M1 hl
  · cases hl : takenB 14 (x.r.getD a 0) (x.r.getD b 0) with
    | true => have e : doL x M time me 14 a b d n = ⟨x.reg 16 (jmpN (x.r.getD 16 0) (kN n)), M, 0, 0⟩ := by simp (decide := true) only [doL, hl, if_true, if_false, eq_self_iff_true, Bool.false_eq_true]
              rw [e]; exact do_br14t x hx hb s ap time me a b d n ha hb16 hn hl
    | false => have e : doL x M time me 14 a b d n = ⟨x.reg 16 (nxN x), M, 0, 0⟩ := by simp (decide := true) only [doL, hl, if_true, if_false, eq_self_iff_true, Bool.false_eq_true]
               rw [e]; exact do_br14f x hx hb s ap time me a b d n ha hb16 hn hl
  · cases hl : takenB 15 (x.r.getD a 0) (x.r.getD b 0) with
    | true => have e : doL x M time me 15 a b d n = ⟨x.reg 16 (jmpN (x.r.getD 16 0) (kN n)), M, 0, 0⟩ := by simp (decide := true) only [doL, hl, if_true, if_false, eq_self_iff_true, Bool.false_eq_true]
              rw [e]; exact do_br15t x hx hb s ap time me a b d n ha hb16 hn hl
    | false => have e : doL x M time me 15 a b d n = ⟨x.reg 16 (nxN x), M, 0, 0⟩ := by simp (decide := true) only [doL, hl, if_true, if_false, eq_self_iff_true, Bool.false_eq_true]
               rw [e]; exact do_br15f x hx hb s ap time me a b d n ha hb16 hn hl
  · cases hl : takenB 16 (x.r.getD a 0) (x.r.getD b 0) with
    | true => have e : doL x M time me 16 a b d n = ⟨x.reg 16 (jmpN (x.r.getD 16 0) (kN n)), M, 0, 0⟩ := by simp (decide := true) only [doL, hl, if_true, if_false, eq_self_iff_true, Bool.false_eq_true]
              rw [e]; exact do_br16t x hx hb s ap time me a b d n ha hb16 hn hl
    | false => have e : doL x M time me 16 a b d n = ⟨x.reg 16 (nxN x), M, 0, 0⟩ := by simp (decide := true) only [doL, hl, if_true, if_false, eq_self_iff_true, Bool.false_eq_true]
               rw [e]; exact do_br16f x hx hb s ap time me a b d n ha hb16 hn hl
  · exact do_jal x hx hb s ap time me a b d n ha hb16 hn
  · exact do_rd x hx hb s ap time me a b d n ha hb16 hn (getN x n time me) (getN_lt hx ht) (fun W => get_all x hx n time me (by have := h5 (.inl rfl); omega) ht W)
  · by_cases hk : 0 ≤ n ∧ n ≤ 6
    · have e : doL x M time me 19 a b d n = ⟨(wakeS (setS x n.toNat (x.r.getD a 0))).reg 16 (nxN x), M, 0, 0⟩ := by simp (decide := true) only [doL, hk, if_true, if_false, and_self]
      rw [e]
      rcases (show n = 0 ∨ n = 1 ∨ n = 2 ∨ n = 3 ∨ n = 4 ∨ n = 5 ∨ n = 6 by omega) with h | h | h | h | h | h | h
      · have := do_wr0 x hx hb s ap time me a b d n ha hb16 hn h; rw [show n.toNat = 0 by omega]; exact this
      · have := do_wr1 x hx hb s ap time me a b d n ha hb16 hn h; rw [show n.toNat = 1 by omega]; exact this
      · have := do_wr2 x hx hb s ap time me a b d n ha hb16 hn h; rw [show n.toNat = 2 by omega]; exact this
      · have := do_wr3 x hx hb s ap time me a b d n ha hb16 hn h; rw [show n.toNat = 3 by omega]; exact this
      · have := do_wr4 x hx hb s ap time me a b d n ha hb16 hn h; rw [show n.toNat = 4 by omega]; exact this
      · have := do_wr5 x hx hb s ap time me a b d n ha hb16 hn h; rw [show n.toNat = 5 by omega]; exact this
      · have := do_wr6 x hx hb s ap time me a b d n ha hb16 hn h; rw [show n.toNat = 6 by omega]; exact this
    · have e : doL x M time me 19 a b d n = ⟨trapS x 1 (x.r.getD 16 0), M, trapK (trapS x 1 (x.r.getD 16 0)), 1⟩ := by simp (decide := true) only [doL, hk, if_true, if_false]
      rw [e]
      exact do_wrBad x hx hb s ap time me a b d n ha hb16 hn hk
  · exact do_hvc x hx hb s ap time me a b d n ha hb16 hn
  · by_cases hz : x.pe &&& x.ma = 0
    · have e : doL x M time me 21 a b d n = ⟨{ x.reg 16 (nxN x) with st := 1 }, M, 3, 0⟩ := by simp (decide := true) only [doL, hz, if_true, if_false]
      rw [e]; exact do_wfia x hx hb s ap time me a b d n ha hb16 hn hz
    · have e : doL x M time me 21 a b d n = ⟨x.reg 16 (nxN x), M, 0, 0⟩ := by simp (decide := true) only [doL, hz, if_true, if_false]
      rw [e]; exact do_wfib x hx hb s ap time me a b d n ha hb16 hn hz
  · exact do_ret x hx hb s ap time me a b d n ha hb16 hn
/-- What stands behind the first lines of Step: the own boxes, the seat, the memory. -/
structure T0 (B sb mb : Nat) (pv : Nat → Value) (x : Se) (M : Me) (time me : Int) (w0 w : World) : Prop where
  k : Keep (fun g => g = sb ∨ PG pv g) w0 w
  e : Blk w w0.heap.size (exitA 0 0).toList 50
  c : Blk w (w0.heap.size + 1) (cpuA sb mb time me).toList 67
  s : Blk w sb x.cells 26
  m : Mm B mb pv M w
  l : sb < w0.heap.size
theorem T0.step {B sb mb : Nat} {pv : Nat → Value} {x : Se} {M : Me} {time me : Int} {w0 w w' : World} (h : T0 B sb mb pv x M time me w0 w) (b : Below w.heap.size w w') : T0 B sb mb pv x M time me w0 w' :=
  ⟨h.k.step (Keep.of_below (S := fun _ => False) b) (fun _ _ e => e.elim), h.e.below b h.e.lt, h.c.below b h.c.lt, h.s.below b h.s.lt, h.m.below b, h.l⟩
theorem T0.upd {B sb mb : Nat} {pv : Nat → Value} {x x' : Se} {M : Me} {time me : Int} {w0 w w' : World} (h : T0 B sb mb pv x M time me w0 w) (ap : Apt sb mb pv) (u : Upd sb x'.cells 26 w w') : T0 B sb mb pv x' M time me w0 w' :=
  ⟨h.k.step u.k (fun i _ e => .inl e), u.blk h.e (by have := h.l; omega), u.blk h.c (by have := h.l; omega), u.c, mm_upd h.m ap u, h.l⟩
/-- Behind a call that is DoP. -/
theorem T0.dop {B sb mb : Nat} {pv : Nat → Value} {x : Se} {M : Me} {time me : Int} {w0 w w' : World} {o : Out} {e : Ending} (h : T0 B sb mb pv x M time me w0 w) (hpg : ∀ g, PG pv g → g < w0.heap.size) (d : DoP B sb mb pv o w e w') : T0 B sb mb pv o.x o.M time me w0 w' :=
  ⟨h.k.step d.2.2.2 (fun i _ q => q), h.e.keep d.2.2.2 (fun q => by rcases q with q | q; have := h.l; omega; have := hpg _ q; omega), h.c.keep d.2.2.2 (fun q => by rcases q with q | q; have := h.l; omega; have := hpg _ q; omega), d.2.1, d.2.2.1, h.l⟩
theorem T0.fin {B sb mb : Nat} {pv : Nat → Value} {x : Se} {M : Me} {time me : Int} {w0 w : World} (h : T0 B sb mb pv x M time me w0 w) (hpg : ∀ g, PG pv g → g < w0.heap.size) (hmb : mb < w0.heap.size) (k n : Nat) :
    DoP B sb mb pv ⟨x, M, k, n⟩ w0 (.returned (.agg (exitA (k : Int) (n : Int)))) ((w.setCell ⟨w0.heap.size, 0, none⟩ (.int .u8 (k : Int))).setCell ⟨w0.heap.size, 1, none⟩ (.int .u64 (n : Int))) ∧
    Blk ((w.setCell ⟨w0.heap.size, 0, none⟩ (.int .u8 (k : Int))).setCell ⟨w0.heap.size, 1, none⟩ (.int .u64 (n : Int))) w0.heap.size (exitA (k : Int) (n : Int)).toList 50 := by
  have hl := h.l
  have hne : w0.heap.size ≠ sb := by omega
  have hnp : ¬ PG pv w0.heap.size := fun e => by have := hpg _ e; omega
  have hnm : w0.heap.size ≠ mb := by omega
  refine ⟨⟨rfl, (h.s.other hne _).other hne _, mm_setCell (mm_setCell h.m hnm hnp _) hnm hnp _, ?_⟩, (h.e.set 0 _).set 1 _⟩
  exact (h.k.setCell (p := ⟨w0.heap.size, 0, none⟩) (fun e => absurd e (by show ¬ w0.heap.size < w0.heap.size; omega)) _).setCell (p := ⟨w0.heap.size, 1, none⟩) (fun e => absurd e (by show ¬ w0.heap.size < w0.heap.size; omega)) _
theorem T0.new {B sb mb : Nat} {pv : Nat → Value} {x : Se} {M : Me} (time me : Int) {w : World} (hb : Blk w sb x.cells 26) (s : Mm B mb pv M w) :
    T0 B sb mb pv x M time me w ((w.alloc (.cells (exitA 0 0) 50)).alloc (.cells (cpuA sb mb time me) 67)) := by
  have b1 : Below w.heap.size w ((w.alloc (.cells (exitA 0 0) 50)).alloc (.cells (cpuA sb mb time me) 67)) := ((Below.refl _ _).alloc (Nat.le_refl _) _).alloc (by simp) _
  have k1 := (Blk.new w (exitA 0 0) 50).alloc (.cells (cpuA sb mb time me) 67)
  have k2 := Blk.new (w.alloc (.cells (exitA 0 0) 50)) (cpuA sb mb time me) 67
  have e1 : (w.alloc (.cells (exitA 0 0) 50)).heap.size = w.heap.size + 1 := by simp
  rw [e1] at k2
  exact ⟨Keep.of_below b1, k1, k2, hb.below b1 hb.lt, s.below b1, hb.lt⟩
theorem T0.drewN {B sb mb : Nat} {pv : Nat → Value} {x : Se} {M : Me} {time me : Int} {w0 w : World} (h : T0 B sb mb pv x M time me w0 w) (n : Nat) : T0 B sb mb pv x M time me w0 (w.drewN n) :=
  ⟨h.k.drewN n, h.e.drewN n, h.c.drewN n, h.s.drewN n, h.m.drewN n, h.l⟩
theorem tab_t0 {B sb mb : Nat} {pv : Nat → Value} {x : Se} {M : Me} {time me : Int} {w0 w : World} (h : T0 B sb mb pv x M time me w0 w) (hT : TabAt 0 Lib.deBruijn64tab w0) (h1 : 0 < sb) (h2 : ¬ PG pv 0) : TabAt 0 Lib.deBruijn64tab w :=
  tab_keep hT h.k (fun e => by rcases e with e | e; omega; exact h2 e)
def trapO (x : Se) (M : Me) (c a : Nat) : Out := ⟨trapS x c a, M, trapK (trapS x c a), c⟩
/-- One step of a seat. -/
def stepL (x : Se) (M : Me) (time me : Int) : Out :=
  if x.st ≠ 0 then ⟨x, M, 5, 0⟩
  else if nextB x = true then trapO (takeS x) M (16 + (nextN x).toNat) 0
  else match loadL M (x.r.getD 17 0) (x.r.getD 16 0) 4 with
    | none => trapO x M 2 (x.r.getD 16 0)
    | some v => if decOk v = true then doL x M time me (dC v) (dA v) (dB v) (dD v) (dN v) else trapO x M 1 v
theorem loadL4_lt {M : Me} (hM : ∀ i, ∀ y ∈ M.p i, y < 256) {base addr v : Nat} (h : loadL M base addr 4 = some v) : v < 2 ^ 32 := by
  unfold loadL at h
  split at h
  · cases h
  · split at h
    · cases h
    · split at h
      · cases h
      · injection h with h
        rw [← h]
        refine Nat.lt_of_lt_of_le (ofB_lt _ (fun y hy => hM _ y (List.mem_of_mem_drop (List.mem_of_mem_take (List.mem_of_mem_take hy))))) ?_
        rw [show (2 : Nat) ^ 32 = 256 ^ 4 by decide]
        exact Nat.pow_le_pow_right (by decide) (by unfold Me.seg; rw [List.length_take, List.length_take]; omega)
theorem size5o : (Tryd.prog.info? 74).map (·.size) = some 5 := by kernel_rfl
set_option maxRecDepth 8000 in
set_option maxHeartbeats 8000000 in
theorem step_calls {B sb mb : Nat} {pv : Nat → Value} {M : Me} {w : World} (x : Se) (hx : x.Ok) (hb : Blk w sb x.cells 26) (s : Mm B mb pv M w) (ap : Apt sb mb pv) (time me : Int) (ht : 0 ≤ time ∧ time < 18446744073709551616) (hT : TabAt 0 Lib.deBruijn64tab w) (h1 : 0 < sb) (h2 : ¬ PG pv 0) :
    Calls Tryd.prog 16 #[.pointer (some ⟨sb, 0, none⟩), .iface 54 (.agg #[.pointer (some ⟨mb, 0, none⟩)]), .int .u64 time, .int .i64 me] w (DoP B sb mb pv (stepL x M time me) w) := by
  have HPG := Lib.hid (fun g (h : PG pv g) => PG.lt s h)
  have hmb : mb < w.heap.size := s.c.lt
  have T1 := Lib.hid (T0.new time me hb s)
  have TB := Lib.hid hT
  have G23 := Lib.hid hx.g23
  clear hb s
  unfold stepL
  by_cases h0 : x.st ≠ 0
  · rw [if_pos h0]
    have hst : ((x.st : Int) != 0) = true := by simp; omega
    clear hT
    unfold cpuA exitA at *
    go_enter Tryd.func16, Tryd.ntmps16
    go_upto_region 2 with (fail)
    generalize hw1 : (w.alloc (.cells _ 50)).alloc _ = w1 at *
    clear hw1
    have c23 := T1.out.s.cellAt G23.out
    have e0 := T1.out.e.cellAt (i := 0) rfl
    have e1 := T1.out.e.cellAt (i := 1) rfl
    have ef0 := T1.out.e.unfrozen 0
    have ef1 := T1.out.e.unfrozen 1
    have F := Lib.hid (T1.out.fin HPG.out hmb 5 0)
    clear T1 h0
    generalize (x.st : Int) = st at *
    go_wp2
    refine bodyPost_ret (v := .agg #[.int .u8 5, .int .u64 0]) (results_cell_row Tryd.results16 _ _ w.heap.size _ #[.int .u8 5, .int .u64 0] _ _ rfl F.out.2 Tryd.underlying50 rfl (by simpa using size2x)) rfl F.out.1
  · rw [if_neg h0]
    have hst0 : x.st = 0 := by omega
    have hst : ((x.st : Int) != 0) = false := by simp; omega
    clear h0 hT
    by_cases hn : nextB x = true
    · rw [if_pos hn]
      have TK := Lib.hid (fun W (h : Blk W sb x.cells 26) (hT : TabAt 0 Lib.deBruijn64tab W) => take_calls x hx sb W h hT)
      rw [hn] at TK
      have hnn : 0 ≤ nextN x ∧ nextN x < 64 := by unfold nextN; rw [if_pos hn]; have := (next_some hx hn).2.2; omega
      have OK2 := Lib.hid (take_ok hx)
      have TC := Lib.hid (fun W (hW : Blk W sb (takeS x).cells 26) => ctrap_calls mb (takeS x) OK2.out hW time me (16 + (nextN x).toNat) 0 (by omega) (by decide))
      have hw2 : IntKind.u64.wrap (nextN x) = nextN x := by rw [wrap_u64]; omega
      have hw3 : IntKind.u64.wrap (16 + nextN x) = ((16 + (nextN x).toNat : Nat) : Int) := by rw [wrap_u64]; omega
      rw [show ((0 : Nat) : Int) = 0 from rfl] at TC
      unfold trapO
      generalize 16 + (nextN x).toNat = cz at *
      generalize nextN x = nn at *
      generalize trapK (trapS (takeS x) cz 0) = tk at *
      unfold cpuA exitA at *
      have TBB := Lib.hid (tab_t0 T1.out TB.out h1 h2)
      go_enter Tryd.func16, Tryd.ntmps16
      go_upto_region 2 with (fail)
      generalize hw1 : (w.alloc (.cells _ 50)).alloc _ = w1 at *
      clear hw1
      have c23 := T1.out.s.cellAt G23.out
      rw [hst0] at c23
      go_upto_region 6 with (go_at_call 20; refine (TK.out _ T1.out.s TBB.out).mono ?_; rintro e w2 ⟨rfl, u2⟩; have T2 := Lib.hid (T1.out.upd ap u2); clear u2)
      clear TK T1 c23
      go_wp2_with (first
        | (refine wpList_load_mid rfl 67 (.tmp 9) rfl (w.heap.size + 1) 0 rfl _ _ (range_all T2.out.c) Tryd.underlying67 rfl size4c ?_)
        | (go_at_call 21; refine (TC.out _ T2.out.s).mono ?_; rintro e w3 ⟨rfl, u3⟩; have T3 := Lib.hid (T2.out.upd ap u3); have g0 := T3.out.e.cellAt (i := 0) rfl; have g1 := T3.out.e.cellAt (i := 1) rfl; have gf0 := T3.out.e.unfrozen 0; have gf1 := T3.out.e.unfrozen 1; clear u3))
      have F := Lib.hid (T3.out.fin HPG.out hmb tk cz)
      refine bodyPost_ret (v := .agg #[.int .u8 (tk : Int), .int .u64 (cz : Int)]) (results_cell_row Tryd.results16 _ _ w.heap.size _ #[.int .u8 (tk : Int), .int .u64 (cz : Int)] _ _ rfl F.out.2 Tryd.underlying50 rfl (by simpa using size2x)) rfl F.out.1
    · rw [if_neg hn]
      have hn2 : nextB x = false := by simpa using hn
      have TK := Lib.hid (fun W (h : Blk W sb x.cells 26) (hT : TabAt 0 Lib.deBruijn64tab W) => take_calls x hx sb W h hT)
      rw [hn2, show takeS x = x by unfold takeS; rw [if_neg hn]] at TK
      have G16 := Lib.hid (hx.gr (i := 16) (by decide))
      have HPC := Lib.hid (getD_lt hx 16)
      have LC := Lib.hid (fun W (hW : Blk W sb x.cells 26) (sW : Mm B mb pv M W) => load_calls x hx hW sW time me (x.r.getD 16 0) 4 (getD_lt hx 16) (.inl rfl))
      have TBB := Lib.hid (tab_t0 T1.out TB.out h1 h2)
      have HX := Lib.hid hx
      have HM := Lib.hid (fun v => loadL4_lt (M := M) (base := x.r.getD 17 0) (addr := x.r.getD 16 0) (v := v) T1.out.m.x)
      have HDO := Lib.hid (fun W (hW : Blk W sb x.cells 26) (sW : Mm B mb pv M W) v (hk : decOk v = true) => do_calls x hx hW sW ap time me ht (dC v) (dA v) (dB v) (dD v) (dN v) (by unfold decOk at hk; simp only [Bool.and_eq_true] at hk; exact hk.1) (by unfold dN; split; exact ⟨by decide, by decide⟩; exact wrap16_bounds _))
      have TC2 := Lib.hid (fun W (hW : Blk W sb x.cells 26) => ctrap_calls mb x hx hW time me 2 (x.r.getD 16 0) (by decide) (getD_lt hx 16))
      have TC1 := Lib.hid (fun W (hW : Blk W sb x.cells 26) v (hv : v < 2 ^ 64) => ctrap_calls mb x hx hW time me 1 v (by decide) hv)
      have DC := Lib.hid (fun v (hv : v < 2 ^ 32) W => decode_calls v hv W)
      unfold trapO
      generalize x.r.getD 16 0 = pc at *
      generalize hld : loadL M (x.r.getD 17 0) pc 4 = ld at *
      have hCC : (cpuA sb mb time me).toList = (cpuA sb mb time me).toList := rfl
      have ICC := Lib.hid size4c
      cases ld with
      | none =>
        clear HM HDO TC1 DC
        simp only [loadE] at LC
        generalize trapK (trapS x 2 pc) = tk at *
        unfold cpuA exitA at *
        go_enter Tryd.func16, Tryd.ntmps16
        go_upto_region 2 with (fail)
        generalize hw1 : (w.alloc (.cells _ 50)).alloc _ = w1 at *
        clear hw1
        have c23 := T1.out.s.cellAt G23.out
        rw [hst0] at c23
        go_upto_region 7 with (go_at_call 20; refine (TK.out _ T1.out.s TBB.out).mono ?_; rintro e w2 ⟨rfl, u2⟩; have T2 := Lib.hid (T1.out.upd ap u2); clear u2)
        clear TK T1 c23 TBB
        have hS : ((fun w' => w'.rangeAt (w.heap.size + 1) 0 [.pointer (some ⟨sb, 0, none⟩), .iface 54 (.agg #[.pointer (some ⟨mb, 0, none⟩)]), .int .u64 time, .int .i64 me] ∧ w'.cell? ⟨sb, 16, none⟩ = some (.int .u64 (pc : Int))) : World → Prop) (w2.drewN 1) := ⟨range_all (T2.out.drewN 1).c, (T2.out.drewN 1).s.cellAt G16.out⟩
        refine wp_region_held_drew (S := fun w' => w'.rangeAt (w.heap.size + 1) 0 [.pointer (some ⟨sb, 0, none⟩), .iface 54 (.agg #[.pointer (some ⟨mb, 0, none⟩)]), .int .u64 time, .int .i64 me] ∧ w'.cell? ⟨sb, 16, none⟩ = some (.int .u64 (pc : Int))) (by kernel_rfl) hS (fun hHeld => ?_)
        refine wpAnyH_take (i := 0) (oi := ⟨some 46, _, _, _, _, _⟩) rfl (by kernel_rfl) (by kernel_rfl) (by kernel_rfl) (fun _ _ _ h => h) (yieldsIf_load_mid (by rfl) 67 (.tmp 9) rfl (w.heap.size + 1) 0 rfl [.pointer (some ⟨sb, 0, none⟩), .iface 54 (.agg #[.pointer (some ⟨mb, 0, none⟩)]), .int .u64 time, .int .i64 me] _ (fun _ h => h.1) Tryd.underlying67 rfl ICC.out) (by assumption) ?_
        try simp only [Act.put, List.setIfInBounds_toArray, List.set_cons_zero, List.set_cons_succ]
        refine wpAnyH_take (i := 1) (oi := ⟨some 47, _, _, _, _, _⟩) (v := .pointer (some ⟨sb, 0, none⟩)) rfl (by kernel_rfl) (by kernel_rfl) (by kernel_rfl) (fun _ _ _ h => h) (Or.inl ⟨by rfl, fun w' hSw => by (try dsimp only at hSw); obtain ⟨q1, q2⟩ := hSw; go_simp⟩) (by assumption) ?_
        try simp only [Act.put, List.setIfInBounds_toArray, List.set_cons_zero, List.set_cons_succ]
        refine wpAnyH_take (i := 2) (oi := ⟨some 48, _, _, _, _, _⟩) (v := .pointer (some ⟨sb, 0, none⟩)) rfl (by kernel_rfl) (by kernel_rfl) (by kernel_rfl) (fun _ _ _ h => h) (Or.inl ⟨by rfl, fun w' hSw => by (try dsimp only at hSw); obtain ⟨q1, q2⟩ := hSw; go_simp⟩) (by assumption) ?_
        try simp only [Act.put, List.setIfInBounds_toArray, List.set_cons_zero, List.set_cons_succ]
        refine wpAnyH_take (i := 3) (oi := ⟨some 49, _, _, _, _, _⟩) (v := .pointer (some ⟨sb, 16, none⟩)) rfl (by kernel_rfl) (by kernel_rfl) (by kernel_rfl) (fun _ _ _ h => h) (Or.inl ⟨by rfl, fun w' hSw => by (try dsimp only at hSw); obtain ⟨q1, q2⟩ := hSw; go_simp⟩) (by assumption) ?_
        try simp only [Act.put, List.setIfInBounds_toArray, List.set_cons_zero, List.set_cons_succ]
        refine wpAnyH_take (i := 4) (oi := ⟨some 50, _, _, _, _, _⟩) (v := .int .u64 (pc : Int)) rfl (by kernel_rfl) (by kernel_rfl) (by kernel_rfl) (fun _ _ _ h => h) (Or.inl ⟨by rfl, fun w' hSw => by (try dsimp only at hSw); obtain ⟨q1, q2⟩ := hSw; go_simp⟩) (by assumption) ?_
        try simp only [Act.put, List.setIfInBounds_toArray, List.set_cons_zero, List.set_cons_succ]
        refine wpAnyH_ready (rs := [5]) (by kernel_rfl) (by simp) ?_
        refine AllReadyH.cons rfl (fun K hK => ?_) AllReadyH.nil
        go_simp
        go_at_call 22
        refine (LC.out _ (T2.out.drewN 1).s (T2.out.drewN 1).m).mono ?_
        rintro e w5 ⟨rfl, b5⟩
        have T5 := Lib.hid ((T2.out.drewN 1).step b5)
        clear b5
        try dsimp only
        refine hK.out _ _ ⟨range_all T5.out.c, T5.out.s.cellAt G16.out⟩ (fun hHeld => ?_)
        clear hK K
        try simp only [Act.put, List.setIfInBounds_toArray, List.set_cons_zero, List.set_cons_succ]
        refine wpAnyH_take (i := 6) (oi := ⟨some 45, _, _, _, _, _⟩) (v := .tuple #[.int .u64 0, .bool false]) rfl (by kernel_rfl) (by kernel_rfl) (by kernel_rfl) (fun _ _ _ h => h) (Or.inl ⟨by rfl, fun w' hSw => by (try dsimp only at hSw); obtain ⟨q1, q2⟩ := hSw; go_simp⟩) (by assumption) ?_
        try simp only [Act.put, List.setIfInBounds_toArray, List.set_cons_zero, List.set_cons_succ]
        refine wpAnyH_take (i := 7) (oi := ⟨some 52, _, _, _, _, _⟩) (v := .int .u64 0) rfl (by kernel_rfl) (by kernel_rfl) (by kernel_rfl) (fun _ _ _ h => h) (Or.inl ⟨by rfl, fun w' hSw => by (try dsimp only at hSw); obtain ⟨q1, q2⟩ := hSw; go_simp⟩) (by assumption) ?_
        try simp only [Act.put, List.setIfInBounds_toArray, List.set_cons_zero, List.set_cons_succ]
        refine wpAnyH_take (i := 8) (oi := ⟨some 53, _, _, _, _, _⟩) (v := .bool false) rfl (by kernel_rfl) (by kernel_rfl) (by kernel_rfl) (fun _ _ _ h => h) (Or.inl ⟨by rfl, fun w' hSw => by (try dsimp only at hSw); obtain ⟨q1, q2⟩ := hSw; go_simp⟩) (by assumption) ?_
        try simp only [Act.put, List.setIfInBounds_toArray, List.set_cons_zero, List.set_cons_succ]
        refine wpAnyH_take (i := 9) (oi := ⟨some 12, _, _, _, _, _⟩) (v := .int .u64 0) rfl (by kernel_rfl) (by kernel_rfl) (by kernel_rfl) (fun _ _ _ h => h) (Or.inl ⟨by rfl, fun w' hSw => by (try dsimp only at hSw); obtain ⟨q1, q2⟩ := hSw; go_simp⟩) (by assumption) ?_
        try simp only [Act.put, List.setIfInBounds_toArray, List.set_cons_zero, List.set_cons_succ]
        refine wpAnyH_take (i := 10) (oi := ⟨some 13, _, _, _, _, _⟩) (v := .bool false) rfl (by kernel_rfl) (by kernel_rfl) (by kernel_rfl) (fun _ _ _ h => h) (Or.inl ⟨by rfl, fun w' hSw => by (try dsimp only at hSw); obtain ⟨q1, q2⟩ := hSw; go_simp⟩) (by assumption) ?_
        try simp only [Act.put, List.setIfInBounds_toArray, List.set_cons_zero, List.set_cons_succ]
        refine wpAnyH_done (by kernel_rfl) ?_ _
        try simp only [Act.put, List.setIfInBounds_toArray, List.set_cons_zero, List.set_cons_succ]
        clear hS T2 LC
        go_upto_region 9 with (fail)
        have dr := range_all (T5.out.drewN 1).c
        have ds := (T5.out.drewN 1).s.cellAt G16.out
        have ds5 := T5.out.s.cellAt G16.out
        refine wp_region_still_tail 5 (by kernel_rfl) (by kernel_rfl) ?_
        simp only [List.take_succ_cons, List.take_zero, List.drop_succ_cons, List.drop_zero]
        refine wpStill_load_mid rfl 67 (.tmp 9) rfl (w.heap.size + 1) 0 rfl _ _ dr Tryd.underlying67 rfl size4c ?_
        repeat still_step
        refine wpStill_nil ?_
        change wpList _ _ _ _ _ (World.drewN _ 1)
        go_wp2_with (go_at_call 21; refine (TC2.out _ (T5.out.drewN 1).s).mono ?_; rintro e w9 ⟨rfl, u9⟩; have T9 := Lib.hid ((T5.out.drewN 1).upd ap u9); have g0 := T9.out.e.cellAt (i := 0) rfl; have g1 := T9.out.e.cellAt (i := 1) rfl; have gf0 := T9.out.e.unfrozen 0; have gf1 := T9.out.e.unfrozen 1; clear u9)
        have F := Lib.hid (T9.out.fin HPG.out hmb tk 2)
        refine bodyPost_ret (v := .agg #[.int .u8 (tk : Int), .int .u64 2]) (results_cell_row Tryd.results16 _ _ w.heap.size _ #[.int .u8 (tk : Int), .int .u64 2] _ _ rfl F.out.2 Tryd.underlying50 rfl (by simpa using size2x)) rfl F.out.1
      | some v =>
        have hv32 := HM.out v rfl
        clear HM TC2
        simp only [loadE] at LC
        dsimp only
        have hw32 : IntKind.u32.wrap (v : Int) = (v : Int) := by rw [IntKind.wrap_u32]; omega
        have hv0 : 0 ≤ (v : Int) := by omega
        have DC' := Lib.hid (DC.out v hv32)
        clear DC
        by_cases hk : decOk v = true
        · have hdc : decCells v = [.int .u8 (dC v : Nat), .int .u8 (dA v : Nat), .int .u8 (dB v : Nat), .int .u8 (dD v : Nat), .int .i16 (dN v)] := by unfold decCells; rw [if_pos hk]
          rw [if_pos hk]
          rw [hk, hdc] at DC'
          have HD := Lib.hid (fun W hW sW => HDO.out W hW sW v hk)
          clear HDO TC1 hdc hk
          unfold opA at HD
          generalize hout : doL x M time me (dC v) (dA v) (dB v) (dD v) (dN v) = ou at *
          clear hout
          obtain ⟨ox, oM, ok, on⟩ := ou
          unfold cpuA exitA at *
          go_enter Tryd.func16, Tryd.ntmps16
          go_upto_region 2 with (fail)
          generalize hw1 : (w.alloc (.cells _ 50)).alloc _ = w1 at *
          clear hw1
          have c23 := T1.out.s.cellAt G23.out
          rw [hst0] at c23
          go_upto_region 7 with (go_at_call 20; refine (TK.out _ T1.out.s TBB.out).mono ?_; rintro e w2 ⟨rfl, u2⟩; have T2 := Lib.hid (T1.out.upd ap u2); clear u2)
          clear TK T1 c23 TBB
          have hS : ((fun w' => w'.rangeAt (w.heap.size + 1) 0 [.pointer (some ⟨sb, 0, none⟩), .iface 54 (.agg #[.pointer (some ⟨mb, 0, none⟩)]), .int .u64 time, .int .i64 me] ∧ w'.cell? ⟨sb, 16, none⟩ = some (.int .u64 (pc : Int))) : World → Prop) (w2.drewN 1) := ⟨range_all (T2.out.drewN 1).c, (T2.out.drewN 1).s.cellAt G16.out⟩
          refine wp_region_held_drew (S := fun w' => w'.rangeAt (w.heap.size + 1) 0 [.pointer (some ⟨sb, 0, none⟩), .iface 54 (.agg #[.pointer (some ⟨mb, 0, none⟩)]), .int .u64 time, .int .i64 me] ∧ w'.cell? ⟨sb, 16, none⟩ = some (.int .u64 (pc : Int))) (by kernel_rfl) hS (fun hHeld => ?_)
          refine wpAnyH_take (i := 0) (oi := ⟨some 46, _, _, _, _, _⟩) rfl (by kernel_rfl) (by kernel_rfl) (by kernel_rfl) (fun _ _ _ h => h) (yieldsIf_load_mid (by rfl) 67 (.tmp 9) rfl (w.heap.size + 1) 0 rfl [.pointer (some ⟨sb, 0, none⟩), .iface 54 (.agg #[.pointer (some ⟨mb, 0, none⟩)]), .int .u64 time, .int .i64 me] _ (fun _ h => h.1) Tryd.underlying67 rfl ICC.out) (by assumption) ?_
          try simp only [Act.put, List.setIfInBounds_toArray, List.set_cons_zero, List.set_cons_succ]
          refine wpAnyH_take (i := 1) (oi := ⟨some 47, _, _, _, _, _⟩) (v := .pointer (some ⟨sb, 0, none⟩)) rfl (by kernel_rfl) (by kernel_rfl) (by kernel_rfl) (fun _ _ _ h => h) (Or.inl ⟨by rfl, fun w' hSw => by (try dsimp only at hSw); obtain ⟨q1, q2⟩ := hSw; go_simp⟩) (by assumption) ?_
          try simp only [Act.put, List.setIfInBounds_toArray, List.set_cons_zero, List.set_cons_succ]
          refine wpAnyH_take (i := 2) (oi := ⟨some 48, _, _, _, _, _⟩) (v := .pointer (some ⟨sb, 0, none⟩)) rfl (by kernel_rfl) (by kernel_rfl) (by kernel_rfl) (fun _ _ _ h => h) (Or.inl ⟨by rfl, fun w' hSw => by (try dsimp only at hSw); obtain ⟨q1, q2⟩ := hSw; go_simp⟩) (by assumption) ?_
          try simp only [Act.put, List.setIfInBounds_toArray, List.set_cons_zero, List.set_cons_succ]
          refine wpAnyH_take (i := 3) (oi := ⟨some 49, _, _, _, _, _⟩) (v := .pointer (some ⟨sb, 16, none⟩)) rfl (by kernel_rfl) (by kernel_rfl) (by kernel_rfl) (fun _ _ _ h => h) (Or.inl ⟨by rfl, fun w' hSw => by (try dsimp only at hSw); obtain ⟨q1, q2⟩ := hSw; go_simp⟩) (by assumption) ?_
          try simp only [Act.put, List.setIfInBounds_toArray, List.set_cons_zero, List.set_cons_succ]
          refine wpAnyH_take (i := 4) (oi := ⟨some 50, _, _, _, _, _⟩) (v := .int .u64 (pc : Int)) rfl (by kernel_rfl) (by kernel_rfl) (by kernel_rfl) (fun _ _ _ h => h) (Or.inl ⟨by rfl, fun w' hSw => by (try dsimp only at hSw); obtain ⟨q1, q2⟩ := hSw; go_simp⟩) (by assumption) ?_
          try simp only [Act.put, List.setIfInBounds_toArray, List.set_cons_zero, List.set_cons_succ]
          refine wpAnyH_ready (rs := [5]) (by kernel_rfl) (by simp) ?_
          refine AllReadyH.cons rfl (fun K hK => ?_) AllReadyH.nil
          go_simp
          go_at_call 22
          refine (LC.out _ (T2.out.drewN 1).s (T2.out.drewN 1).m).mono ?_
          rintro e w5 ⟨rfl, b5⟩
          have T5 := Lib.hid ((T2.out.drewN 1).step b5)
          clear b5
          try dsimp only
          refine hK.out _ _ ⟨range_all T5.out.c, T5.out.s.cellAt G16.out⟩ (fun hHeld => ?_)
          clear hK K
          try simp only [Act.put, List.setIfInBounds_toArray, List.set_cons_zero, List.set_cons_succ]
          refine wpAnyH_take (i := 6) (oi := ⟨some 45, _, _, _, _, _⟩) (v := .tuple #[.int .u64 (v : Int), .bool true]) rfl (by kernel_rfl) (by kernel_rfl) (by kernel_rfl) (fun _ _ _ h => h) (Or.inl ⟨by rfl, fun w' hSw => by (try dsimp only at hSw); obtain ⟨q1, q2⟩ := hSw; go_simp⟩) (by assumption) ?_
          try simp only [Act.put, List.setIfInBounds_toArray, List.set_cons_zero, List.set_cons_succ]
          refine wpAnyH_take (i := 7) (oi := ⟨some 52, _, _, _, _, _⟩) (v := .int .u64 (v : Int)) rfl (by kernel_rfl) (by kernel_rfl) (by kernel_rfl) (fun _ _ _ h => h) (Or.inl ⟨by rfl, fun w' hSw => by (try dsimp only at hSw); obtain ⟨q1, q2⟩ := hSw; go_simp⟩) (by assumption) ?_
          try simp only [Act.put, List.setIfInBounds_toArray, List.set_cons_zero, List.set_cons_succ]
          refine wpAnyH_take (i := 8) (oi := ⟨some 53, _, _, _, _, _⟩) (v := .bool true) rfl (by kernel_rfl) (by kernel_rfl) (by kernel_rfl) (fun _ _ _ h => h) (Or.inl ⟨by rfl, fun w' hSw => by (try dsimp only at hSw); obtain ⟨q1, q2⟩ := hSw; go_simp⟩) (by assumption) ?_
          try simp only [Act.put, List.setIfInBounds_toArray, List.set_cons_zero, List.set_cons_succ]
          refine wpAnyH_take (i := 9) (oi := ⟨some 12, _, _, _, _, _⟩) (v := .int .u64 (v : Int)) rfl (by kernel_rfl) (by kernel_rfl) (by kernel_rfl) (fun _ _ _ h => h) (Or.inl ⟨by rfl, fun w' hSw => by (try dsimp only at hSw); obtain ⟨q1, q2⟩ := hSw; go_simp⟩) (by assumption) ?_
          try simp only [Act.put, List.setIfInBounds_toArray, List.set_cons_zero, List.set_cons_succ]
          refine wpAnyH_take (i := 10) (oi := ⟨some 13, _, _, _, _, _⟩) (v := .bool true) rfl (by kernel_rfl) (by kernel_rfl) (by kernel_rfl) (fun _ _ _ h => h) (Or.inl ⟨by rfl, fun w' hSw => by (try dsimp only at hSw); obtain ⟨q1, q2⟩ := hSw; go_simp⟩) (by assumption) ?_
          try simp only [Act.put, List.setIfInBounds_toArray, List.set_cons_zero, List.set_cons_succ]
          refine wpAnyH_done (by kernel_rfl) ?_ _
          try simp only [Act.put, List.setIfInBounds_toArray, List.set_cons_zero, List.set_cons_succ]
          clear hS T2 LC
          go_upto_region 11 with (go_at_call 23; refine (DC'.out _).mono ?_; rintro e w6 ⟨rfl, b6⟩; have T6 := Lib.hid (T5.out.step b6); clear b6)
          clear T5 DC'
          have T7 := Lib.hid (T6.out.step (w' := w6.alloc (.cells #[.int .u8 ((dC v : Nat) : Int), .int .u8 ((dA v : Nat) : Int), .int .u8 ((dB v : Nat) : Int), .int .u8 ((dD v : Nat) : Int), .int .i16 (dN v)] 74)) ((Below.refl _ _).alloc (Nat.le_refl _) _))
          have OB := Lib.hid (Blk.new w6 #[.int .u8 ((dC v : Nat) : Int), .int .u8 ((dA v : Nat) : Int), .int .u8 ((dB v : Nat) : Int), .int .u8 ((dD v : Nat) : Int), .int .i16 (dN v)] 74)
          clear T6
          generalize hN : w6.heap.size = N at *
          generalize hw7 : w6.alloc _ = w7 at *
          go_wp2_with (first
            | (refine wpList_load_mid rfl 67 (.tmp 9) rfl (w.heap.size + 1) 0 rfl _ _ (range_all T7.out.c) Tryd.underlying67 rfl size4c ?_)
            | (refine wpList_load_mid rfl 74 (.tmp 14) rfl N 0 rfl _ _ (range_all OB.out) Tryd.underlying74 rfl size5o ?_)
            | (go_at_call 24; refine (HD.out _ T7.out.s T7.out.m).mono ?_; rintro e w9 ⟨he, d2, d3, d4⟩; dsimp only [exitA] at he; subst he; have T9 := Lib.hid (T7.out.dop (o := ⟨ox, oM, ok, on⟩) HPG.out ⟨rfl, d2, d3, d4⟩); have g0 := T9.out.e.cellAt (i := 0) rfl; have g1 := T9.out.e.cellAt (i := 1) rfl; have gf0 := T9.out.e.unfrozen 0; have gf1 := T9.out.e.unfrozen 1; clear d2 d3 d4))
          have F := Lib.hid (T9.out.fin HPG.out hmb ok on)
          refine bodyPost_ret (v := .agg #[.int .u8 (ok : Int), .int .u64 (on : Int)]) (results_cell_row Tryd.results16 _ _ w.heap.size _ #[.int .u8 (ok : Int), .int .u64 (on : Int)] _ _ rfl F.out.2 Tryd.underlying50 rfl (by simpa using size2x)) rfl F.out.1
        · have hkf : decOk v = false := by simpa using hk
          have hdc : decCells v = [.int .u8 0, .int .u8 0, .int .u8 0, .int .u8 0, .int .i16 0] := by unfold decCells; rw [if_neg hk]
          rw [if_neg hk]
          rw [hkf, hdc] at DC'
          have TC := Lib.hid (fun W hW => TC1.out W hW v (by omega))
          clear HDO TC1 hdc hk hkf
          generalize trapK (trapS x 1 v) = tk at *
          unfold cpuA exitA at *
          go_enter Tryd.func16, Tryd.ntmps16
          go_upto_region 2 with (fail)
          generalize hw1 : (w.alloc (.cells _ 50)).alloc _ = w1 at *
          clear hw1
          have c23 := T1.out.s.cellAt G23.out
          rw [hst0] at c23
          go_upto_region 7 with (go_at_call 20; refine (TK.out _ T1.out.s TBB.out).mono ?_; rintro e w2 ⟨rfl, u2⟩; have T2 := Lib.hid (T1.out.upd ap u2); clear u2)
          clear TK T1 c23 TBB
          have hS : ((fun w' => w'.rangeAt (w.heap.size + 1) 0 [.pointer (some ⟨sb, 0, none⟩), .iface 54 (.agg #[.pointer (some ⟨mb, 0, none⟩)]), .int .u64 time, .int .i64 me] ∧ w'.cell? ⟨sb, 16, none⟩ = some (.int .u64 (pc : Int))) : World → Prop) (w2.drewN 1) := ⟨range_all (T2.out.drewN 1).c, (T2.out.drewN 1).s.cellAt G16.out⟩
          refine wp_region_held_drew (S := fun w' => w'.rangeAt (w.heap.size + 1) 0 [.pointer (some ⟨sb, 0, none⟩), .iface 54 (.agg #[.pointer (some ⟨mb, 0, none⟩)]), .int .u64 time, .int .i64 me] ∧ w'.cell? ⟨sb, 16, none⟩ = some (.int .u64 (pc : Int))) (by kernel_rfl) hS (fun hHeld => ?_)
          refine wpAnyH_take (i := 0) (oi := ⟨some 46, _, _, _, _, _⟩) rfl (by kernel_rfl) (by kernel_rfl) (by kernel_rfl) (fun _ _ _ h => h) (yieldsIf_load_mid (by rfl) 67 (.tmp 9) rfl (w.heap.size + 1) 0 rfl [.pointer (some ⟨sb, 0, none⟩), .iface 54 (.agg #[.pointer (some ⟨mb, 0, none⟩)]), .int .u64 time, .int .i64 me] _ (fun _ h => h.1) Tryd.underlying67 rfl ICC.out) (by assumption) ?_
          try simp only [Act.put, List.setIfInBounds_toArray, List.set_cons_zero, List.set_cons_succ]
          refine wpAnyH_take (i := 1) (oi := ⟨some 47, _, _, _, _, _⟩) (v := .pointer (some ⟨sb, 0, none⟩)) rfl (by kernel_rfl) (by kernel_rfl) (by kernel_rfl) (fun _ _ _ h => h) (Or.inl ⟨by rfl, fun w' hSw => by (try dsimp only at hSw); obtain ⟨q1, q2⟩ := hSw; go_simp⟩) (by assumption) ?_
          try simp only [Act.put, List.setIfInBounds_toArray, List.set_cons_zero, List.set_cons_succ]
          refine wpAnyH_take (i := 2) (oi := ⟨some 48, _, _, _, _, _⟩) (v := .pointer (some ⟨sb, 0, none⟩)) rfl (by kernel_rfl) (by kernel_rfl) (by kernel_rfl) (fun _ _ _ h => h) (Or.inl ⟨by rfl, fun w' hSw => by (try dsimp only at hSw); obtain ⟨q1, q2⟩ := hSw; go_simp⟩) (by assumption) ?_
          try simp only [Act.put, List.setIfInBounds_toArray, List.set_cons_zero, List.set_cons_succ]
          refine wpAnyH_take (i := 3) (oi := ⟨some 49, _, _, _, _, _⟩) (v := .pointer (some ⟨sb, 16, none⟩)) rfl (by kernel_rfl) (by kernel_rfl) (by kernel_rfl) (fun _ _ _ h => h) (Or.inl ⟨by rfl, fun w' hSw => by (try dsimp only at hSw); obtain ⟨q1, q2⟩ := hSw; go_simp⟩) (by assumption) ?_
          try simp only [Act.put, List.setIfInBounds_toArray, List.set_cons_zero, List.set_cons_succ]
          refine wpAnyH_take (i := 4) (oi := ⟨some 50, _, _, _, _, _⟩) (v := .int .u64 (pc : Int)) rfl (by kernel_rfl) (by kernel_rfl) (by kernel_rfl) (fun _ _ _ h => h) (Or.inl ⟨by rfl, fun w' hSw => by (try dsimp only at hSw); obtain ⟨q1, q2⟩ := hSw; go_simp⟩) (by assumption) ?_
          try simp only [Act.put, List.setIfInBounds_toArray, List.set_cons_zero, List.set_cons_succ]
          refine wpAnyH_ready (rs := [5]) (by kernel_rfl) (by simp) ?_
          refine AllReadyH.cons rfl (fun K hK => ?_) AllReadyH.nil
          go_simp
          go_at_call 22
          refine (LC.out _ (T2.out.drewN 1).s (T2.out.drewN 1).m).mono ?_
          rintro e w5 ⟨rfl, b5⟩
          have T5 := Lib.hid ((T2.out.drewN 1).step b5)
          clear b5
          try dsimp only
          refine hK.out _ _ ⟨range_all T5.out.c, T5.out.s.cellAt G16.out⟩ (fun hHeld => ?_)
          clear hK K
          try simp only [Act.put, List.setIfInBounds_toArray, List.set_cons_zero, List.set_cons_succ]
          refine wpAnyH_take (i := 6) (oi := ⟨some 45, _, _, _, _, _⟩) (v := .tuple #[.int .u64 (v : Int), .bool true]) rfl (by kernel_rfl) (by kernel_rfl) (by kernel_rfl) (fun _ _ _ h => h) (Or.inl ⟨by rfl, fun w' hSw => by (try dsimp only at hSw); obtain ⟨q1, q2⟩ := hSw; go_simp⟩) (by assumption) ?_
          try simp only [Act.put, List.setIfInBounds_toArray, List.set_cons_zero, List.set_cons_succ]
          refine wpAnyH_take (i := 7) (oi := ⟨some 52, _, _, _, _, _⟩) (v := .int .u64 (v : Int)) rfl (by kernel_rfl) (by kernel_rfl) (by kernel_rfl) (fun _ _ _ h => h) (Or.inl ⟨by rfl, fun w' hSw => by (try dsimp only at hSw); obtain ⟨q1, q2⟩ := hSw; go_simp⟩) (by assumption) ?_
          try simp only [Act.put, List.setIfInBounds_toArray, List.set_cons_zero, List.set_cons_succ]
          refine wpAnyH_take (i := 8) (oi := ⟨some 53, _, _, _, _, _⟩) (v := .bool true) rfl (by kernel_rfl) (by kernel_rfl) (by kernel_rfl) (fun _ _ _ h => h) (Or.inl ⟨by rfl, fun w' hSw => by (try dsimp only at hSw); obtain ⟨q1, q2⟩ := hSw; go_simp⟩) (by assumption) ?_
          try simp only [Act.put, List.setIfInBounds_toArray, List.set_cons_zero, List.set_cons_succ]
          refine wpAnyH_take (i := 9) (oi := ⟨some 12, _, _, _, _, _⟩) (v := .int .u64 (v : Int)) rfl (by kernel_rfl) (by kernel_rfl) (by kernel_rfl) (fun _ _ _ h => h) (Or.inl ⟨by rfl, fun w' hSw => by (try dsimp only at hSw); obtain ⟨q1, q2⟩ := hSw; go_simp⟩) (by assumption) ?_
          try simp only [Act.put, List.setIfInBounds_toArray, List.set_cons_zero, List.set_cons_succ]
          refine wpAnyH_take (i := 10) (oi := ⟨some 13, _, _, _, _, _⟩) (v := .bool true) rfl (by kernel_rfl) (by kernel_rfl) (by kernel_rfl) (fun _ _ _ h => h) (Or.inl ⟨by rfl, fun w' hSw => by (try dsimp only at hSw); obtain ⟨q1, q2⟩ := hSw; go_simp⟩) (by assumption) ?_
          try simp only [Act.put, List.setIfInBounds_toArray, List.set_cons_zero, List.set_cons_succ]
          refine wpAnyH_done (by kernel_rfl) ?_ _
          try simp only [Act.put, List.setIfInBounds_toArray, List.set_cons_zero, List.set_cons_succ]
          clear hS T2 LC
          go_upto_region 11 with (go_at_call 23; refine (DC'.out _).mono ?_; rintro e w6 ⟨rfl, b6⟩; have T6 := Lib.hid (T5.out.step b6); clear b6)
          clear T5 DC'
          have T7 := Lib.hid (T6.out.step (w' := w6.alloc (.cells #[.int .u8 0, .int .u8 0, .int .u8 0, .int .u8 0, .int .i16 0] 74)) ((Below.refl _ _).alloc (Nat.le_refl _) _))
          have OB := Lib.hid (Blk.new w6 #[.int .u8 0, .int .u8 0, .int .u8 0, .int .u8 0, .int .i16 0] 74)
          clear T6
          generalize hN : w6.heap.size = N at *
          generalize hw7 : w6.alloc _ = w7 at *
          go_wp2_with (first
            | (refine wpList_load_mid rfl 67 (.tmp 9) rfl (w.heap.size + 1) 0 rfl _ _ (range_all T7.out.c) Tryd.underlying67 rfl size4c ?_)
            | (go_at_call 21; refine (TC.out _ T7.out.s).mono ?_; rintro e w9 ⟨rfl, u9⟩; have T9 := Lib.hid (T7.out.upd ap u9); have g0 := T9.out.e.cellAt (i := 0) rfl; have g1 := T9.out.e.cellAt (i := 1) rfl; have gf0 := T9.out.e.unfrozen 0; have gf1 := T9.out.e.unfrozen 1; clear u9))
          have F := Lib.hid (T9.out.fin HPG.out hmb tk 1)
          refine bodyPost_ret (v := .agg #[.int .u8 (tk : Int), .int .u64 1]) (results_cell_row Tryd.results16 _ _ w.heap.size _ #[.int .u8 (tk : Int), .int .u64 1] _ _ rfl F.out.2 Tryd.underlying50 rfl (by simpa using size2x)) rfl F.out.1
end Go.Proofs.YtjlodddlbgpcdaaDoor.Walks
