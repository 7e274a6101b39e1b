/- Walks through the functions of the statement, and the statement over them: each contract says what the call answers and that nothing else changes. -/
import Derived.Test.YtjlodddlbgpcdaaDoorProg
import Derived.Test.YtjlodddlbgpcdaaDoorBits
import Derived.Test.YtjlodddlbgpcdaaDoorHeap
import Derived.Test.YtjlodddlbgpcdaaDoorAid
import Derived.Test.YtjlodddlbgpcdaaDoorArr
import Derived.Test.YtjlodddlbgpcdaaDoorEql
import Derived.Test.YtjlodddlbgpcdaaDoorWalkBase
import Derived.Test.YtjlodddlbgpcdaaDoorWalkCode
import Derived.Test.YtjlodddlbgpcdaaDoorWalkSeat
import Derived.Test.YtjlodddlbgpcdaaDoorWalkRef
import Derived.Test.YtjlodddlbgpcdaaDoorWalkRefR
import Derived.Test.YtjlodddlbgpcdaaDoorWalkBus
import Derived.Test.YtjlodddlbgpcdaaDoorWalkBus2
import Derived.Test.YtjlodddlbgpcdaaDoorWalkRefP
import Derived.Test.YtjlodddlbgpcdaaDoorWalkRefG
import Derived.Test.YtjlodddlbgpcdaaDoorWalkRefL
import Derived.Test.YtjlodddlbgpcdaaDoorWalkDo
import Derived.Test.YtjlodddlbgpcdaaDoorWalkDo2
import Derived.Test.YtjlodddlbgpcdaaDoorWalkStep
import Derived.Test.YtjlodddlbgpcdaaDoorWalkSome
import Derived.Lib.Hide
import Derived.WalkKit
import Derived.WalkSpells
import Derived.WalkLawsBesides
import Derived.Deep.QuietTactic
import Derived.BigQuiet
import Derived.Deep.RegionHeld3
import Derived.Deep.DeepCutAuto
import Derived.Deep.CutBlock
import Derived.Lib.SlBytesConst
import Derived.StillTailTactics
import Derived.RegionTactic
import Derived.Deep.RegionLaw
import Derived.Laws.BytesString
import Derived.Laws.MakeOwn
import Derived.Deep.AppendLies
import Derived.Laws.CopyOwn
import Derived.Maps.AppendAt
import Derived.Deep.Upon
import Derived.Deep.AppendSrc
import Derived.Shelf.Abstract
import Derived.Shelf.Spec.TrailingZeros
namespace Go.Proofs.YtjlodddlbgpcdaaDoor.Walks
set_option linter.unusedVariables false
set_option linter.unusedSimpArgs false
open Go.RowKit Go.Proofs.YtjlodddlbgpcdaaDoor.Bits Go.Proofs.YtjlodddlbgpcdaaDoor.Heap Go.Proofs.YtjlodddlbgpcdaaDoor.Aid Go.Proofs.YtjlodddlbgpcdaaDoor.Arr Go.Proofs.YtjlodddlbgpcdaaDoor.Eql

theorem S2.apt {ma mb : Nat} {pa pb : Nat → Value} {M N : Me} {w0 w : World} (s : S2 ma mb pa pb M N w0 w) {sb : Nat} (h : w.heap.size ≤ sb) : Apt sb ma pa :=
  ⟨fun e => (s.fresh h).1 (.inl e), fun e => (s.fresh h).1 (.inr e)⟩
theorem S2.pg0 {ma mb : Nat} {pa pb : Nat → Value} {M N : Me} {w0 w : World} (s : S2 ma mb pa pb M N w0 w) (h : 0 < w0.heap.size) : ¬ PG pa 0 := fun ⟨i, hi, e⟩ => by
  have := (World.ownsRow.lt (s.a.r i hi) 0 e).1
  omega
def awM : Me := someM 1 1 [5, 0, 64, 4] [] 32
def awX : Se := ⟨[0, 5, 0, 0, 0, 0, 0, 0, 0, 0, 0, 0, 0, 0, 0, 0, 4, 0, 0, 0, 0, 0], false, 0, 0, 0⟩
theorem aw_out : (stepL zeroSe awM 0 0).x = awX ∧ (stepL zeroSe awM 0 0).k = 0 ∧ (stepL zeroSe awM 0 0).n = 0 := by decide +kernel
theorem aw_word : wordF 1 1 0 0 5 = 71303173 := by decide +kernel
set_option maxRecDepth 8000 in
set_option maxHeartbeats 8000000 in
theorem awake_calls (w : World) (hT : TabAt 0 Lib.deBruijn64tab w) :
    Calls Tryd.prog 10 #[] w fun e w' => e = .returned (.bool true) ∧ Below w.heap.size w w' := by
  have WC := Lib.hid (refWord_calls 1 1 0 0 5 (by decide) (by decide) (by decide) (by decide) w)
  rw [aw_word] at WC
  have HT := Lib.hid hT
  have H0 := Lib.hid (tab_lt hT)
  have hz := zero_val
  have SM := Lib.hid (fun W => mksome_calls 1 1 (.slice (some ⟨W.heap.size, 0, none⟩) 4 4) (.slice none 0 0) [5, 0, 64, 4] [] (W.alloc (.cells #[.int .u8 5, .int .u8 0, .int .u8 64, .int .u8 4] 5)) (Row.of_blk (t := 5) (l := [5, 0, 64, 4]) (enc := enc8) (Blk.new W #[.int .u8 5, .int .u8 0, .int .u8 64, .int .u8 4] 5)) (Row.nil _ _) (by decide) (by decide) (by decide) (by decide))
  clear hT
  go_enter Tryd.func10, Tryd.ntmps10
  go_upto_region 2 with (go_at_call 13; refine WC.out.mono ?_; rintro e w1 ⟨rfl, b1⟩; have B1 := Lib.hid b1; clear b1)
  clear WC
  have B2 := Lib.hid (B1.out.alloc B1.out.size (.cells #[.int .u8 5, .int .u8 0, .int .u8 64, .int .u8 4] 5))
  go_upto_region 3 with (go_at_call 14; refine (SM.out _).mono ?_; rintro e w3 ⟨ma, mb, pa, pb, rfl, s3⟩; have S3 := Lib.hid s3; clear s3)
  have BT := Lib.hid (Blk.new w3 zeroSe.cells.toArray 26)
  have HO := Lib.hid (Se.one zeroSe)
  have AL := Lib.hid ((Below.refl w3.heap.size w3).alloc (Nat.le_refl _) (.cells zeroSe.cells.toArray 26))
  have HI : zeroSe.cells.toArray.size = 26 := by kernel_rfl
  go_upto_region 4 with (refine wpList_store_mid rfl 26 (.tmp 4) (.tmp 23) rfl w3.heap.size 0 zeroSe.cells.toArray rfl rfl (there_of_blk BT.out ?s1) ?s2 ?s3 ?_)
  case s1 => rw [zero_cells]; decide
  case s2 => simpa using size26
  case s3 => first | exact HO.out | exact all_oneCell_toArray HO.out
  have bz := Lib.hid (blk_setAll BT.out (vs := zeroSe.cells) (by simp))
  have az := Lib.hid (below_setCells AL.out (Nat.le_refl _) 0 zeroSe.cells)
  have ea : (w3.alloc (.cells zeroSe.cells.toArray 26)).setCells w3.heap.size 0 zeroSe.cells.toArray.toList = (w3.alloc (.cells zeroSe.cells.toArray 26)).setCells w3.heap.size 0 zeroSe.cells := rfl
  clear AL BT
  generalize hw4 : (w3.alloc (.cells zeroSe.cells.toArray 26)).setCells w3.heap.size 0 zeroSe.cells = w4 at *
  have MT := Lib.hid (S3.out.a.below az.out)
  have TT := Lib.hid (tab_below (tab_below (tab_below HT.out B1.out) ((Below.refl _ _).alloc (Nat.le_refl _) (.cells #[.int .u8 5, .int .u8 0, .int .u8 64, .int .u8 4] 5))) S3.out.bel)
  have T4 := Lib.hid (tab_below TT.out az.out)
  have AP := Lib.hid (S3.out.apt (Nat.le_refl _))
  have P0 := Lib.hid (S3.out.pg0 (by simp))
  have L0 : 0 < w3.heap.size := by have h1 := S3.out.bel.size; simp at h1; omega
  have ST := Lib.hid (show Calls Tryd.prog 16 #[.pointer (some ⟨w3.heap.size, 0, none⟩), .iface 54 (.agg #[.pointer (some ⟨ma, 0, none⟩)]), .int .u64 0, .int .i64 0] w4 (DoP _ w3.heap.size ma pa (stepL zeroSe awM 0 0) w4) from step_calls zeroSe zero_ok bz.out MT.out AP.out 0 0 (by decide) T4.out L0 P0.out)
  have AO := Lib.hid aw_out
  generalize stepL zeroSe awM 0 0 = O at *
  have HX : exitA (O.k : Int) (O.n : Int) = #[.int .u8 0, .int .u64 0] := by rw [AO.out.2.1, AO.out.2.2]; rfl
  clear ea hz SM HT H0 TT T4 hw4 MT AP P0 bz
  go_upto_region 5 with (go_at_call 16; refine ST.out.mono ?_; rintro e w5 ⟨rfl, db, dm, dk⟩; rw [HX]; rw [AO.out.1] at db; have D5 := Lib.hid db; have K5 := Lib.hid dk; clear db dm dk)
  have D6 := Lib.hid (D5.out.alloc (.cells #[.int .u8 0, .int .u64 0] 50))
  have c0 := D6.out.cellAt (i := 1) (v := .int .u64 5) (by rfl)
  have c1 := D6.out.cellAt (i := 16) (v := .int .u64 4) (by rfl)
  have c2 := D5.out.cellAt (i := 1) (v := .int .u64 5) (by rfl)
  have c3 := D5.out.cellAt (i := 16) (v := .int .u64 4) (by rfl)
  go_wp2
  have hw := B2.out.size
  have hw1 := S3.out.bel.size
  have hL : w.heap.size ≤ w3.heap.size := by omega
  go_ret
  refine ⟨rfl, ?_⟩
  have q1 : Below w.heap.size w w3 := B2.out.trans (S3.out.bel.mono hw)
  have q2 : Below w.heap.size w w4 := q1.trans (az.out.mono hL)
  refine Keep.belowB q2 (K5.out.alloc _) q2.size (fun i hi e => ?_)
  rcases e with e | ⟨j, hj, e⟩
  · omega
  · have := (World.ownsRow.lt (S3.out.a.r j hj) i e).1
    omega
end Go.Proofs.YtjlodddlbgpcdaaDoor.Walks
