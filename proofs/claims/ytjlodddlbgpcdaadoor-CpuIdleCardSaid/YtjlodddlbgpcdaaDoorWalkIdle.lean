/- Walks through the functions of the statement, and the statement over them: each contract says what the call answers and that nothing else changes. -/
import Derived.Test.YtjlodddlbgpcdaaDoorProg
import Derived.Test.YtjlodddlbgpcdaaDoorBits
import Derived.Test.YtjlodddlbgpcdaaDoorHeap
import Derived.Test.YtjlodddlbgpcdaaDoorAid
import Derived.Test.YtjlodddlbgpcdaaDoorArr
import Derived.Test.YtjlodddlbgpcdaaDoorEql
import Derived.Test.YtjlodddlbgpcdaaDoorWalkBase
import Derived.Test.YtjlodddlbgpcdaaDoorWalkCode
import Derived.Test.YtjlodddlbgpcdaaDoorWalkSeat
import Derived.Test.YtjlodddlbgpcdaaDoorWalkRef
import Derived.Test.YtjlodddlbgpcdaaDoorWalkRefR
import Derived.Test.YtjlodddlbgpcdaaDoorWalkBus
import Derived.Test.YtjlodddlbgpcdaaDoorWalkBus2
import Derived.Test.YtjlodddlbgpcdaaDoorWalkRefP
import Derived.Test.YtjlodddlbgpcdaaDoorWalkRefG
import Derived.Test.YtjlodddlbgpcdaaDoorWalkRefL
import Derived.Test.YtjlodddlbgpcdaaDoorWalkDo
import Derived.Test.YtjlodddlbgpcdaaDoorWalkDo2
import Derived.Test.YtjlodddlbgpcdaaDoorWalkStep
import Derived.Test.YtjlodddlbgpcdaaDoorWalkSome
import Derived.Test.YtjlodddlbgpcdaaDoorWalkAwake
import Derived.Test.YtjlodddlbgpcdaaDoorWalkNil
import Derived.Lib.Hide
import Derived.WalkKit
import Derived.WalkSpells
import Derived.WalkLawsBesides
import Derived.Deep.QuietTactic
import Derived.BigQuiet
import Derived.Deep.RegionHeld3
import Derived.Deep.DeepCutAuto
import Derived.Deep.CutBlock
import Derived.Lib.SlBytesConst
import Derived.StillTailTactics
import Derived.RegionTactic
import Derived.Deep.RegionLaw
import Derived.Laws.BytesString
import Derived.Laws.MakeOwn
import Derived.Deep.AppendLies
import Derived.Laws.CopyOwn
import Derived.Maps.AppendAt
import Derived.Deep.Upon
import Derived.Deep.AppendSrc
import Derived.Shelf.Abstract
import Derived.Shelf.Spec.TrailingZeros
namespace Go.Proofs.YtjlodddlbgpcdaaDoor.Walks
set_option linter.unusedVariables false
set_option linter.unusedSimpArgs false
open Go.RowKit Go.Proofs.YtjlodddlbgpcdaaDoor.Bits Go.Proofs.YtjlodddlbgpcdaaDoor.Heap Go.Proofs.YtjlodddlbgpcdaaDoor.Aid Go.Proofs.YtjlodddlbgpcdaaDoor.Arr Go.Proofs.YtjlodddlbgpcdaaDoor.Eql

def idleS (x : Se) : Se := if (nearS x).st = 0 then { nearS x with st := 1 } else nearS x
theorem stepL_idle {z : Se} (h : z.st ≠ 0) (M : Me) (time me : Int) : stepL z M time me = ⟨z, M, 5, 0⟩ := by unfold stepL; rw [if_pos h]
set_option maxRecDepth 8000 in
set_option maxHeartbeats 4000000 in
theorem cpuIdle_walk (c : List Value) (a1 a2 : Int) (w : World) (f : Fits w seSh c) (wa1 : (Lit.int .u64 a1).wf = true) (wa2 : (Lit.int .i64 a2).wf = true) (hT : TabAt 0 Lib.deBruijn64tab w) :
    Calls Tryd.prog 7 #[.agg c.toArray, .int .u64 a1, .int .i64 a2] w fun e w' => e = .returned (.bool true) ∧ Below w.heap.size w w' := by
  obtain ⟨x, rfl, h⟩ := seat_of_fits f
  have HN := Lib.hid (near_calls x h)
  have okn := Lib.hid (near_ok h)
  have LX := Lib.hid h.len
  have IX := Lib.hid (info_se h)
  have IN := Lib.hid (info_se okn.out)
  have LN := Lib.hid okn.out.len
  have ON := Lib.hid (Se.one (nearS x))
  have S23 := Lib.hid (show (nearS x).cells.set 23 (.int .u8 1) = { nearS x with st := 1 }.cells from okn.out.s23 1)
  have G23 := Lib.hid okn.out.g23
  have HT := Lib.hid hT
  clear hT f
  generalize nearS x = y at *
  generalize hY : y.cells = YC at *
  generalize x.cells = XC at *
  have HY := Lib.hid hY
  clear hY
  have X1 : Hid (Own w w.heap.size XC 26 (w.alloc (.cells XC.toArray 26))) := Own.newL (Below.refl _ _) _ _
  go_enter Tryd.func7, Tryd.ntmps7
  go_upto_region 1 with (fail)
  generalize w.alloc (.cells XC.toArray 26) = w1 at *
  go_upto_region 2 with (first | refine wpList_load_mid rfl 26 (.tmp 3) rfl w.heap.size 0 rfl XC _ X1.out.all Tryd.underlying26 rfl IX.out ?_ | (go_at_call 11; refine (HN.out _).mono ?_; rintro e w2 ⟨rfl, u2⟩; have X2 := Lib.hid (X1.out.step u2); clear u2) | refine wpList_store_mid rfl 26 (.tmp 3) (.tmp 14) rfl w.heap.size 0 YC.toArray rfl rfl (X2.out.there ?s1) ?s2 ?s3 ?_)
  case s1 => have h1 := LX.out; have h2 := LN.out; simp; omega
  case s2 => simpa using IN.out
  case s3 => first | exact ON.out | exact all_oneCell_toArray ON.out
  have X3 := Lib.hid (X2.out.setAll YC (by rw [LX.out, LN.out]))
  generalize World.setCells _ _ _ _ = w3 at *
  clear HN X2 X1
  generalize hw0 : w.heap.size = N at *
  by_cases h0 : y.st = 0
  · have d0 : (((y.st : Nat) : Int) == 0) = true := by rw [h0]; rfl
    have c23 := X3.out.cell G23.out
    have f23 := X3.out.k.unfrozen 23
    go_upto_region 4 with (fail)
    have okz := Lib.hid (show ({ y with st := 1 } : Se).Ok from ⟨okn.out.l, okn.out.w, by show 1 < 256; omega, okn.out.p, okn.out.m⟩)
    have z0 : ({ y with st := 1 } : Se).st ≠ 0 := by show (1 : Nat) ≠ 0; omega
    have X4 := Lib.hid (X3.out.set 23 (.int .u8 1))
    rw [← HY.out, show y.cells.set 23 (.int .u8 1) = ({ y with st := 1 } : Se).cells from okn.out.s23 1] at X4
    clear c23 f23 d0 X3
    generalize ({ y with st := 1 } : Se) = z at *
    generalize World.setCell _ _ _ = w4 at *
    have LZ := Lib.hid okz.out.len
    have IZ := Lib.hid (info_se okz.out)
    have OZ := Lib.hid (Se.one z)
    have Y4 := Lib.hid (Own.newL X4.out.bel zeroSe.cells 26)
    have XX4 := Lib.hid (X4.out.alloc (.cells zeroSe.cells.toArray 26))
    have NE := Lib.hid (Nat.ne_of_lt X4.out.lt)
    have hz := zero_val
    go_upto_region 5 with (first | refine wpList_load_mid rfl 26 (.tmp 3) rfl N 0 rfl z.cells _ X4.out.all Tryd.underlying26 rfl IZ.out ?_ | refine wpList_store_mid rfl 26 (.tmp 7) (.tmp 19) rfl w4.heap.size 0 z.cells.toArray rfl rfl (Y4.out.there ?s1) ?s2 ?s3 ?_)
    case s1 => have h1 := zero_ok.len; have h2 := LZ.out; simp; omega
    case s2 => simpa using IZ.out
    case s3 => first | exact OZ.out | exact all_oneCell_toArray OZ.out
    have Y5 := Lib.hid (Y4.out.setAll z.cells (by rw [zero_ok.len, LZ.out]))
    have X5 := Lib.hid (XX4.out.setAllO (Ne.symm NE.out) X4.out.bel.size 0 z.cells)
    generalize hM : w4.heap.size = M at *
    generalize World.setCells _ _ _ _ = w5 at *
    clear hz Y4 XX4 X4
    go_upto_region 6 with (go_at_call 14; refine (mksome_calls 1 1 (.slice none 0 0) (.slice none 0 0) [] [] w5 (Row.nil _ _) (Row.nil _ _) (by decide) (by decide) (by decide) (by decide)).mono ?_; rintro e w6 ⟨ma, mb, pa, pb, rfl, s6⟩; have S6 := Lib.hid s6; clear s6)
    have X6 := Lib.hid (X5.out.step S6.out.bel)
    have Y6 := Lib.hid (Y5.out.step S6.out.bel)
    have HNW := Lib.hid (And.intro X5.out.lt Y5.out.lt)
    clear X5 Y5
    have h7 := HNW.out
    have b6 := S6.out.a.b
    have A6 := Lib.hid (show Apt N ma pa from ⟨fun e => by omega, fun ⟨j, hj, e⟩ => by have := (World.ownsRow.lt (S6.out.a.r j hj) N e).1; omega⟩)
    have P6 := Lib.hid (S6.out.pg0 (by omega))
    have T6 := Lib.hid (tab_below HT.out X6.out.bel)
    have ht : 0 ≤ a1 ∧ a1 < 18446744073709551616 := by obtain ⟨n, e, hn⟩ := Bits.wf_u64 wa1; omega
    have ST := Lib.hid (step_calls z okz.out X6.out.k S6.out.a A6.out a1 a2 ht T6.out (by have := tab_lt HT.out; omega) P6.out)
    rw [stepL_idle z0] at ST
    have HX : exitA ((5 : Nat) : Int) ((0 : Nat) : Int) = #[.int .u8 5, .int .u64 0] := rfl
    clear T6 P6 ht
    go_upto_region 7 with (go_at_call 16; refine ST.out.mono ?_; rintro e w7 ⟨rfl, db, dm, dk⟩; rw [HX]; have D7 := Lib.hid db; have K7 := Lib.hid dk; clear db dm dk)
    have hnm : ¬ (M = N ∨ PG pa M) := fun e => by
      rcases e with e | ⟨j, hj, e⟩
      · exact NE.out e.symm
      · have := (World.ownsRow.lt (S6.out.a.r j hj) M e).1; omega
    have bel7 := Lib.hid (Keep.belowB X6.out.bel K7.out X6.out.bel.size (fun i hi e => by
      rcases e with e | ⟨j, hj, e⟩
      · omega
      · have := (World.ownsRow.lt (S6.out.a.r j hj) i e).1; omega))
    have X7 := Lib.hid (show Own w N z.cells 26 w7 from ⟨bel7.out, X6.out.n, D7.out⟩)
    have Y7 := Lib.hid (show Own w M z.cells 26 w7 from ⟨bel7.out, Y6.out.n, (K7.out.block M Y6.out.lt hnm).trans Y6.out.k⟩)
    have E7 := Lib.hid (Own.newL X7.out.bel [.int .u8 5, .int .u64 0] 50)
    have X8 := Lib.hid (X7.out.alloc (.cells #[.int .u8 5, .int .u64 0] 50))
    have Y8 := Lib.hid (Y7.out.alloc (.cells #[.int .u8 5, .int .u64 0] 50))
    clear X6 Y6 D7 K7 S6 ST A6 bel7 hnm h7 b6 HNW HX
    generalize hN1 : w7.heap.size = N1 at *
    generalize w7.alloc _ = w8 at *
    go_upto_region 8 with (go_at_call 16; refine (step_nil ma a1 a2 w8).mono ?_; rintro e w9 ⟨rfl, b9⟩; have B9 := Lib.hid b9; clear b9; unfold exitA)
    have X9 := Lib.hid (X8.out.step B9.out)
    have Y9 := Lib.hid (Y8.out.step B9.out)
    have E9 := Lib.hid (E7.out.step B9.out)
    have F9 := Lib.hid (Own.newL X9.out.bel [.int .u8 5, .int .u64 0] 50)
    have X10 := Lib.hid (X9.out.alloc (.cells #[.int .u8 5, .int .u64 0] 50))
    have Y10 := Lib.hid (Y9.out.alloc (.cells #[.int .u8 5, .int .u64 0] 50))
    have E10 := Lib.hid (E9.out.alloc (.cells #[.int .u8 5, .int .u64 0] 50))
    clear X7 Y7 X8 Y8 E7 B9 X9 Y9 E9
    generalize hN2 : w9.heap.size = N2 at *
    generalize w9.alloc _ = w10 at *
    go_upto_region 9 with (go_at_call 16; refine (step_nobus w10.heap.size a1 a2 _).mono ?_; rintro e w11 ⟨rfl, b11⟩; have B11 := Lib.hid b11; clear b11; unfold exitA)
    have X11 := Lib.hid ((X10.out.alloc (.cells zeroSe.cells.toArray 26)).step B11.out)
    have Y11 := Lib.hid ((Y10.out.alloc (.cells zeroSe.cells.toArray 26)).step B11.out)
    have E11 := Lib.hid ((E10.out.alloc (.cells zeroSe.cells.toArray 26)).step B11.out)
    have F11 := Lib.hid ((F9.out.alloc (.cells zeroSe.cells.toArray 26)).step B11.out)
    have G12 := Lib.hid (Own.newL X11.out.bel [.int .u8 5, .int .u64 0] 50)
    have X12 := Lib.hid (X11.out.alloc (.cells #[.int .u8 5, .int .u64 0] 50))
    have Y12 := Lib.hid (Y11.out.alloc (.cells #[.int .u8 5, .int .u64 0] 50))
    have E12 := Lib.hid (E11.out.alloc (.cells #[.int .u8 5, .int .u64 0] 50))
    have F12 := Lib.hid (F11.out.alloc (.cells #[.int .u8 5, .int .u64 0] 50))
    clear X10 Y10 E10 F9 B11 X11 Y11 E11 F11
    generalize hN3 : w11.heap.size = N3 at *
    generalize w11.alloc _ = w12 at *
    have EQ := fun W => (eql_same (P := Tryd.prog) (w := W) (w0 := W) (n := 3) (t := 26) (s := seSh) (by kernel_rfl) (by omega) (by kernel_rfl) (okz.out.fits W)).1
    have EX : ∀ W : World, (binOp .eql 50 (.agg #[.int .u8 5, .int .u64 0]) (.agg #[.int .u8 5, .int .u64 0])).run Tryd.prog W = .ok (.bool true) W := fun W => by kernel_rfl
    generalize hZC : z.cells = ZC at *
    go_wp2_with (first
      | refine wpList_load_w (by rfl) 26 (.tmp 3) rfl N 0 rfl ZC _ X13.out.all Tryd.underlying26 rfl IZ.out ?_
      | refine wpList_load_w (by rfl) 26 (.tmp 7) rfl M 0 rfl ZC _ Y13.out.all Tryd.underlying26 rfl IZ.out ?_
      | refine wpList_load_w (by rfl) 50 (.tmp 10) rfl N1 0 rfl [.int .u8 5, .int .u64 0] _ E13.out.all Tryd.underlying50 rfl size2x ?_
      | refine wpList_load_w (by rfl) 50 (.tmp 11) rfl N2 0 rfl [.int .u8 5, .int .u64 0] _ F13.out.all Tryd.underlying50 rfl size2x ?_
      | refine wpList_load_w (by rfl) 50 (.tmp 12) rfl N3 0 rfl [.int .u8 5, .int .u64 0] _ G13.out.all Tryd.underlying50 rfl size2x ?_
      | (go_at_call 10; refine (awake_calls _ (tab_below HT.out X12.out.bel)).mono ?_; rintro e w13 ⟨rfl, u⟩; have X13 := Lib.hid (X12.out.step u); have Y13 := Lib.hid (Y12.out.step u); have E13 := Lib.hid (E12.out.step u); have F13 := Lib.hid (F12.out.step u); have G13 := Lib.hid (G12.out.step u); clear u))
    go_ret
    exact ⟨rfl, X13.out.bel⟩
  · have d0 : (((y.st : Nat) : Int) == 0) = false := by simp; omega
    have c23 := X3.out.cell G23.out
    go_upto_region 4 with (fail)
    have X4 := X3
    rw [← HY.out] at X4
    have LZ := Lib.hid okn.out.len
    have IZ := Lib.hid (info_se okn.out)
    have OZ := Lib.hid (Se.one y)
    have Y4 := Lib.hid (Own.newL X4.out.bel zeroSe.cells 26)
    have XX4 := Lib.hid (X4.out.alloc (.cells zeroSe.cells.toArray 26))
    have NE := Lib.hid (Nat.ne_of_lt X4.out.lt)
    have hz := zero_val
    go_upto_region 5 with (first | refine wpList_load_mid rfl 26 (.tmp 3) rfl N 0 rfl y.cells _ X4.out.all Tryd.underlying26 rfl IZ.out ?_ | refine wpList_store_mid rfl 26 (.tmp 7) (.tmp 19) rfl w3.heap.size 0 y.cells.toArray rfl rfl (Y4.out.there ?s1) ?s2 ?s3 ?_)
    case s1 => have h1 := zero_ok.len; have h2 := LZ.out; simp; omega
    case s2 => simpa using IZ.out
    case s3 => first | exact OZ.out | exact all_oneCell_toArray OZ.out
    have Y5 := Lib.hid (Y4.out.setAll y.cells (by rw [zero_ok.len, LZ.out]))
    have X5 := Lib.hid (XX4.out.setAllO (Ne.symm NE.out) X4.out.bel.size 0 y.cells)
    generalize hM : w3.heap.size = M at *
    generalize World.setCells _ _ _ _ = w5 at *
    clear hz Y4 XX4 X4
    go_upto_region 6 with (go_at_call 14; refine (mksome_calls 1 1 (.slice none 0 0) (.slice none 0 0) [] [] w5 (Row.nil _ _) (Row.nil _ _) (by decide) (by decide) (by decide) (by decide)).mono ?_; rintro e w6 ⟨ma, mb, pa, pb, rfl, s6⟩; have S6 := Lib.hid s6; clear s6)
    have X6 := Lib.hid (X5.out.step S6.out.bel)
    have Y6 := Lib.hid (Y5.out.step S6.out.bel)
    have HNW := Lib.hid (And.intro X5.out.lt Y5.out.lt)
    clear X5 Y5
    have h7 := HNW.out
    have b6 := S6.out.a.b
    have A6 := Lib.hid (show Apt N ma pa from ⟨fun e => by omega, fun ⟨j, hj, e⟩ => by have := (World.ownsRow.lt (S6.out.a.r j hj) N e).1; omega⟩)
    have P6 := Lib.hid (S6.out.pg0 (by omega))
    have T6 := Lib.hid (tab_below HT.out X6.out.bel)
    have ht : 0 ≤ a1 ∧ a1 < 18446744073709551616 := by obtain ⟨n, e, hn⟩ := Bits.wf_u64 wa1; omega
    have ST := Lib.hid (step_calls y okn.out X6.out.k S6.out.a A6.out a1 a2 ht T6.out (by have := tab_lt HT.out; omega) P6.out)
    rw [stepL_idle h0] at ST
    have HX : exitA ((5 : Nat) : Int) ((0 : Nat) : Int) = #[.int .u8 5, .int .u64 0] := rfl
    clear T6 P6 ht
    go_upto_region 7 with (go_at_call 16; refine ST.out.mono ?_; rintro e w7 ⟨rfl, db, dm, dk⟩; rw [HX]; have D7 := Lib.hid db; have K7 := Lib.hid dk; clear db dm dk)
    have hnm : ¬ (M = N ∨ PG pa M) := fun e => by
      rcases e with e | ⟨j, hj, e⟩
      · exact NE.out e.symm
      · have := (World.ownsRow.lt (S6.out.a.r j hj) M e).1; omega
    have bel7 := Lib.hid (Keep.belowB X6.out.bel K7.out X6.out.bel.size (fun i hi e => by
      rcases e with e | ⟨j, hj, e⟩
      · omega
      · have := (World.ownsRow.lt (S6.out.a.r j hj) i e).1; omega))
    have X7 := Lib.hid (show Own w N y.cells 26 w7 from ⟨bel7.out, X6.out.n, D7.out⟩)
    have Y7 := Lib.hid (show Own w M y.cells 26 w7 from ⟨bel7.out, Y6.out.n, (K7.out.block M Y6.out.lt hnm).trans Y6.out.k⟩)
    have E7 := Lib.hid (Own.newL X7.out.bel [.int .u8 5, .int .u64 0] 50)
    have X8 := Lib.hid (X7.out.alloc (.cells #[.int .u8 5, .int .u64 0] 50))
    have Y8 := Lib.hid (Y7.out.alloc (.cells #[.int .u8 5, .int .u64 0] 50))
    clear X6 Y6 D7 K7 S6 ST A6 bel7 hnm h7 b6 HNW HX
    generalize hN1 : w7.heap.size = N1 at *
    generalize w7.alloc _ = w8 at *
    go_upto_region 8 with (go_at_call 16; refine (step_nil ma a1 a2 w8).mono ?_; rintro e w9 ⟨rfl, b9⟩; have B9 := Lib.hid b9; clear b9; unfold exitA)
    have X9 := Lib.hid (X8.out.step B9.out)
    have Y9 := Lib.hid (Y8.out.step B9.out)
    have E9 := Lib.hid (E7.out.step B9.out)
    have F9 := Lib.hid (Own.newL X9.out.bel [.int .u8 5, .int .u64 0] 50)
    have X10 := Lib.hid (X9.out.alloc (.cells #[.int .u8 5, .int .u64 0] 50))
    have Y10 := Lib.hid (Y9.out.alloc (.cells #[.int .u8 5, .int .u64 0] 50))
    have E10 := Lib.hid (E9.out.alloc (.cells #[.int .u8 5, .int .u64 0] 50))
    clear X7 Y7 X8 Y8 E7 B9 X9 Y9 E9
    generalize hN2 : w9.heap.size = N2 at *
    generalize w9.alloc _ = w10 at *
    go_upto_region 9 with (go_at_call 16; refine (step_nobus w10.heap.size a1 a2 _).mono ?_; rintro e w11 ⟨rfl, b11⟩; have B11 := Lib.hid b11; clear b11; unfold exitA)
    have X11 := Lib.hid ((X10.out.alloc (.cells zeroSe.cells.toArray 26)).step B11.out)
    have Y11 := Lib.hid ((Y10.out.alloc (.cells zeroSe.cells.toArray 26)).step B11.out)
    have E11 := Lib.hid ((E10.out.alloc (.cells zeroSe.cells.toArray 26)).step B11.out)
    have F11 := Lib.hid ((F9.out.alloc (.cells zeroSe.cells.toArray 26)).step B11.out)
    have G12 := Lib.hid (Own.newL X11.out.bel [.int .u8 5, .int .u64 0] 50)
    have X12 := Lib.hid (X11.out.alloc (.cells #[.int .u8 5, .int .u64 0] 50))
    have Y12 := Lib.hid (Y11.out.alloc (.cells #[.int .u8 5, .int .u64 0] 50))
    have E12 := Lib.hid (E11.out.alloc (.cells #[.int .u8 5, .int .u64 0] 50))
    have F12 := Lib.hid (F11.out.alloc (.cells #[.int .u8 5, .int .u64 0] 50))
    clear X10 Y10 E10 F9 B11 X11 Y11 E11 F11
    generalize hN3 : w11.heap.size = N3 at *
    generalize w11.alloc _ = w12 at *
    have EQ := fun W => (eql_same (P := Tryd.prog) (w := W) (w0 := W) (n := 3) (t := 26) (s := seSh) (by kernel_rfl) (by omega) (by kernel_rfl) (okn.out.fits W)).1
    have EX : ∀ W : World, (binOp .eql 50 (.agg #[.int .u8 5, .int .u64 0]) (.agg #[.int .u8 5, .int .u64 0])).run Tryd.prog W = .ok (.bool true) W := fun W => by kernel_rfl
    generalize hZC : y.cells = ZC at *
    go_wp2_with (first
      | refine wpList_load_w (by rfl) 26 (.tmp 3) rfl N 0 rfl ZC _ X13.out.all Tryd.underlying26 rfl IZ.out ?_
      | refine wpList_load_w (by rfl) 26 (.tmp 7) rfl M 0 rfl ZC _ Y13.out.all Tryd.underlying26 rfl IZ.out ?_
      | refine wpList_load_w (by rfl) 50 (.tmp 10) rfl N1 0 rfl [.int .u8 5, .int .u64 0] _ E13.out.all Tryd.underlying50 rfl size2x ?_
      | refine wpList_load_w (by rfl) 50 (.tmp 11) rfl N2 0 rfl [.int .u8 5, .int .u64 0] _ F13.out.all Tryd.underlying50 rfl size2x ?_
      | refine wpList_load_w (by rfl) 50 (.tmp 12) rfl N3 0 rfl [.int .u8 5, .int .u64 0] _ G13.out.all Tryd.underlying50 rfl size2x ?_
      | (go_at_call 10; refine (awake_calls _ (tab_below HT.out X12.out.bel)).mono ?_; rintro e w13 ⟨rfl, u⟩; have X13 := Lib.hid (X12.out.step u); have Y13 := Lib.hid (Y12.out.step u); have E13 := Lib.hid (E12.out.step u); have F13 := Lib.hid (F12.out.step u); have G13 := Lib.hid (G12.out.step u); clear u))
    go_ret
    exact ⟨rfl, X13.out.bel⟩
end Go.Proofs.YtjlodddlbgpcdaaDoor.Walks
