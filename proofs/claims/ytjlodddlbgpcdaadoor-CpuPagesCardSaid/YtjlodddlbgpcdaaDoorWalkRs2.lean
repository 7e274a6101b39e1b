/- Walks through the functions of the statement, and the statement over them: each contract says what the call answers and that nothing else changes. -/
import Derived.Test.YtjlodddlbgpcdaaDoorProg
import Derived.Test.YtjlodddlbgpcdaaDoorBits
import Derived.Test.YtjlodddlbgpcdaaDoorHeap
import Derived.Test.YtjlodddlbgpcdaaDoorAid
import Derived.Test.YtjlodddlbgpcdaaDoorArr
import Derived.Test.YtjlodddlbgpcdaaDoorEql
import Derived.Test.YtjlodddlbgpcdaaDoorWalkBase
import Derived.Test.YtjlodddlbgpcdaaDoorWalkCode
import Derived.Test.YtjlodddlbgpcdaaDoorWalkSeat
import Derived.Test.YtjlodddlbgpcdaaDoorWalkRef
import Derived.Test.YtjlodddlbgpcdaaDoorWalkRefR
import Derived.Test.YtjlodddlbgpcdaaDoorWalkBus
import Derived.Test.YtjlodddlbgpcdaaDoorWalkBus2
import Derived.Test.YtjlodddlbgpcdaaDoorWalkRefP
import Derived.Test.YtjlodddlbgpcdaaDoorWalkRefG
import Derived.Test.YtjlodddlbgpcdaaDoorWalkRefL
import Derived.Test.YtjlodddlbgpcdaaDoorWalkDo
import Derived.Test.YtjlodddlbgpcdaaDoorWalkDo2
import Derived.Test.YtjlodddlbgpcdaaDoorWalkStep
import Derived.Test.YtjlodddlbgpcdaaDoorWalkSome
import Derived.Test.YtjlodddlbgpcdaaDoorWalkAwake
import Derived.Test.YtjlodddlbgpcdaaDoorWalkNil
import Derived.Test.YtjlodddlbgpcdaaDoorWalkPl
import Derived.Test.YtjlodddlbgpcdaaDoorWalkRs0
import Derived.Lib.Hide
import Derived.WalkKit
import Derived.WalkSpells
import Derived.WalkLawsBesides
import Derived.Deep.QuietTactic
import Derived.BigQuiet
import Derived.Deep.RegionHeld3
import Derived.Deep.DeepCutAuto
import Derived.Deep.CutBlock
import Derived.Lib.SlBytesConst
import Derived.StillTailTactics
import Derived.RegionTactic
import Derived.Deep.RegionLaw
import Derived.Laws.BytesString
import Derived.Laws.MakeOwn
import Derived.Deep.AppendLies
import Derived.Laws.CopyOwn
import Derived.Maps.AppendAt
import Derived.Deep.Upon
import Derived.Deep.AppendSrc
import Derived.Shelf.Abstract
import Derived.Shelf.Spec.TrailingZeros
namespace Go.Proofs.YtjlodddlbgpcdaaDoor.Walks
set_option linter.unusedVariables false
set_option linter.unusedSimpArgs false
open Go.RowKit Go.Proofs.YtjlodddlbgpcdaaDoor.Bits Go.Proofs.YtjlodddlbgpcdaaDoor.Heap Go.Proofs.YtjlodddlbgpcdaaDoor.Aid Go.Proofs.YtjlodddlbgpcdaaDoor.Arr Go.Proofs.YtjlodddlbgpcdaaDoor.Eql

set_option maxRecDepth 8000 in
set_option maxHeartbeats 8000000 in
theorem rs_ld {B mb : Nat} {pv : Nat → Value} {M : Me} {w : World} (x : Se) (hx : x.Ok) (h8 : x.Ok8) (s : Mm B mb pv M w) (time me : Int) (hst : x.st = 0) (hln : lineL x = -1) (v : Nat) (hv : v < 2 ^ 32) (hld : loadL M (x.r.getD 17 0) (x.r.getD 16 0) 4 = some v) (a b : Nat) (n : Int) (ha : a < 16) (hb16 : b < 16) (hn : -32768 ≤ n ∧ n ≤ 32767) (hr : rightB ((12 : Nat) : Int) a b ((0 : Nat) : Int) n = true) (hw : wordF 12 a b 0 n = v) (qc : (v : Int) / 67108864 = 12) (qa : (v : Int) / 4194304 % 16 = a) (qb : (v : Int) / 262144 % 16 = b) (qn : IntKind.i16.wrap ((v : Int) % 65536) = n) (u : Nat) (hu : u < 2 ^ 64) (hl : loadL M (x.r.getD 17 0) (addN (x.r.getD b 0) (kN n)) 8 = some u) :
    Calls Tryd.prog 18 #[.agg x.cells.toArray, .pointer (some ⟨mb, 0, none⟩), .int .u64 time, .int .i64 me] w (RStepP B mb pv ⟨(x.reg a u).reg 16 (nxN x), M, 0, 0⟩ w) := by
  have R := Lib.hid (Rs.new (x := x) s)
  have LC := Lib.hid (fun W => refLine_calls x hx h8 W)
  rw [hln] at LC
  have GC := Lib.hid (fun W (h : Mm B mb pv M W) => refGet_calls x hx h (x.r.getD 16 0) 4 (getD_lt hx 16) (.inl rfl))
  rw [hld] at GC
  simp only [loadE] at GC
  have hz := zero_val
  have HZL := Lib.hid zero_ok.len
  have HX := Lib.hid hx
  have I0 := Lib.hid (info_se hx)
  have I26 := Lib.hid size26
  have XL := Lib.hid hx.len
  have ZL := Lib.hid (fun (a : Nat) (ha : a < 26) => ha)
  have G16 := Lib.hid (hx.gr (i := 16) (by decide))
  have G23 := Lib.hid hx.g23
  rw [hst] at G23
  have FC : Hid (∀ W, Calls Tryd.prog 12 #[.int .u8 12] W fun e w' => e = .returned (.int .i64 11) ∧ Below W.heap.size W w') := fun W => refFields_calls 12 (by decide) W
  have RR : Hid (∀ W, Calls Tryd.prog 27 #[.int .u8 12, .int .u8 (a : Int), .int .u8 (b : Int), .int .u8 0, .int .i16 n] W fun e w' => e = .returned (.bool true) ∧ Below W.heap.size W w') := fun W => hr ▸ refRight_calls 12 a b 0 n W
  have RW : Hid (∀ W, Calls Tryd.prog 13 #[.int .u8 12, .int .u8 (a : Int), .int .u8 (b : Int), .int .u8 0, .int .i16 n] W fun e w' => e = .returned (.int .u32 (v : Int)) ∧ Below W.heap.size W w') := fun W => hw ▸ refWord_calls 12 a b 0 n (by decide) ha hb16 (by decide) W
  clear hr hw
  have HA := Lib.hid ha
  have HB := Lib.hid hb16
  have hwk := kN_wrap n
  have KL := Lib.hid (kN_lt n)
  have hwx := nx_wrap x
  have NL := Lib.hid (nx_lt x)
  have GA := Lib.hid (hx.gr (i := a) (by omega))
  have GB := Lib.hid (hx.gr (i := b) (by omega))
  have GD := Lib.hid (hx.gr (i := 0) (by omega))
  have HVA := Lib.hid (getD_lt hx a)
  have HVB := Lib.hid (getD_lt hx b)
  have HVD := Lib.hid (getD_lt hx 0)
  have hai : (a : Int) ≤ 15 := by omega
  have hbi : (b : Int) ≤ 15 := by omega
  have hai0 : 0 ≤ (a : Int) := by omega
  have hbi0 : 0 ≤ (b : Int) := by omega
  have hai1 : (a : Int) < 16 := by omega
  have hbi1 : (b : Int) < 16 := by omega
  have hai2 : ¬ (a : Int) < 0 := by omega
  have hbi2 : ¬ (b : Int) < 0 := by omega
  have GC8 := Lib.hid (fun W (h : Mm B mb pv M W) => refGet_calls x hx h (addN (x.r.getD b 0) (kN n)) 8 (addN_lt _ _) (.inr rfl))
  rw [hl] at GC8
  simp only [loadE] at GC8
  clear hl
  have hwa := add_wrap (x.r.getD b 0) (kN n)
  have AL := Lib.hid (addN_lt (x.r.getD b 0) (kN n))
  generalize addN (x.r.getD b 0) (kN n) = ad at *
  generalize kN n = kk at *
  generalize nxN x = nx at *
  generalize x.r.getD a 0 = va at *
  generalize x.r.getD b 0 = vb at *
  generalize x.r.getD 0 0 = vd at *
  clear hln hld s hx h8 hst
  generalize x.r.getD 16 0 = pc at *
  generalize hZC : zeroSe.cells = ZC at *
  have hZC := Lib.hid hZC
  have hzs : ZC.toArray.size = 26 := by simpa using HZL.out
  have hzn : ¬ ZC.toArray = #[] := fun h => by rw [h] at hzs; simp at hzs
  generalize hXC : x.cells = XC at *
  have hXC := Lib.hid hXC
  go_enter Tryd.func18, Tryd.ntmps18
  go_upto_region 1 with (fail)
  generalize hw1 : (w.alloc (.cells _ 26)).alloc _ = w1 at *
  clear hw1 hzs hzn hz
  have c23 := R.out.s.cellAt (hXC.out ▸ G23.out)
  go_upto_region 4 with (first
    | (refine wpList_load_mid rfl 26 (.tmp 4) rfl w.heap.size 0 rfl XC _ (hXC.out ▸ range_all R.out.s) Tryd.underlying26 rfl I0.out ?_)
    | (go_at_call 17; refine (LC.out _).mono ?_; rintro e w2 ⟨rfl, b2⟩; have R2 := Lib.hid (R.out.step b2); clear b2))
  clear R LC c23
  have c16 := R2.out.s.cellAt (hXC.out ▸ G16.out)
  go_upto_region 8 with (first
    | (refine wpList_load_mid rfl 26 (.tmp 4) rfl w.heap.size 0 rfl XC _ (hXC.out ▸ range_all R2.out.s) Tryd.underlying26 rfl I0.out ?_)
    | (go_at_call 26; refine (GC.out _ R2.out.m).mono ?_; rintro e w3 ⟨rfl, b3⟩; have R3 := Lib.hid (R2.out.step b3); clear b3))
  clear R2 GC c16
  go_upto_region 18 with (go_at_call 12; refine (FC.out _).mono ?_; rintro e w4 ⟨rfl, b4⟩; have R4 := Lib.hid (R3.out.step b4); clear b4)
  clear FC R3
  go_upto_region 20 with (first
    | (go_at_call 27; refine (RR.out _).mono ?_; rintro e w5 ⟨rfl, b5⟩; have R5 := Lib.hid (R4.out.step b5); clear b5)
    | (go_at_call 13; refine (RW.out _).mono ?_; rintro e w6 ⟨rfl, b6⟩; have R6 := Lib.hid (R5.out.step b6); clear b6))
  clear R4 R5 RR RW
  have c16 := R6.out.s.cellAt (hXC.out ▸ G16.out)
  have cA := R6.out.s.cellAt (hXC.out ▸ GA.out)
  have cB := R6.out.s.cellAt (hXC.out ▸ GB.out)
  have cD := R6.out.s.cellAt (hXC.out ▸ GD.out)
  go_upto_region 52 with (first
    | (refine wpList_load_mid rfl 26 (.tmp 4) rfl w.heap.size 0 rfl XC _ (hXC.out ▸ range_all R6.out.s) Tryd.underlying26 rfl I0.out ?_)
    | (go_at_call 26; refine (GC8.out _ R6.out.m).mono ?_; rintro e w8 ⟨rfl, b8⟩; have R8 := Lib.hid (R6.out.step b8); clear b8))
  clear GC8 R6 c16 cA cB cD
  have R6 := R8
  have cA := R6.out.s.cellAt (hXC.out ▸ GA.out)
  have fA := R6.out.s.unfrozen a
  have E1 := Lib.hid (R6.out.reg HX.out (a := a) (by have := HA.out; omega) u)
  go_upto_region 103 with (fail)
  generalize World.setCell _ _ _ = w7 at *
  have OK1 := Lib.hid (show (x.reg a u).Ok from HX.out.reg (a := a) hu)
  have t16 := E1.out.s.cellAt (OK1.out.gr (i := 16) (by decide))
  have tf := E1.out.s.unfrozen 16
  have E2 := Lib.hid (E1.out.reg OK1.out (a := 16) (by decide) nx)
  have OK2 := Lib.hid (OK1.out.reg (a := 16) (v := nx) NL.out)
  clear E1 OK1
  go_upto_region 104 with (fail)
  have F := Lib.hid (E2.out.fin OK2.out 0 0)
  have RA := Lib.hid (range_all E2.out.s)
  have RZ := Lib.hid E2.out.z
  rw [hZC.out] at RZ
  have I2 := Lib.hid (info_se OK2.out)
  have HO := Lib.hid (Se.one ((x.reg a u).reg 16 nx))
  have YL := Lib.hid OK2.out.len
  generalize hw9 : World.setCell _ _ _ = w9 at *
  clear hw9
  clear E2
  generalize ((x.reg a u).reg 16 nx).cells = YC at *
  go_wp2_with (first
    | (refine wpList_load_mid rfl 26 (.tmp 4) rfl w.heap.size 0 rfl YC _ RA.out Tryd.underlying26 rfl I2.out ?_)
    | (refine wpList_store_mid rfl 26 (.tmp 8) (.tmp 410) rfl (w.heap.size + 1) 0 YC.toArray rfl rfl (there_of_blk RZ.out ?s1) ?s2 ?s3 ?_))
  case s1 => have h1 := HZL.out; have h2 := YL.out; simp; omega
  case s2 => simpa using I2.out
  case s3 => first | exact HO.out | exact all_oneCell_toArray HO.out
  refine bodyPost_ret (v := .tuple #[.agg YC.toArray, .int .u8 0, .int .u64 0]) (results_ctt Tryd.results18 _ _ (w.heap.size + 1) YC _ rfl F.out.2 Tryd.underlying26 rfl I2.out) rfl F.out.1
set_option maxRecDepth 8000 in
set_option maxHeartbeats 8000000 in
theorem rs_ldBad {B mb : Nat} {pv : Nat → Value} {M : Me} {w : World} (x : Se) (hx : x.Ok) (h8 : x.Ok8) (s : Mm B mb pv M w) (time me : Int) (hst : x.st = 0) (hln : lineL x = -1) (v : Nat) (hv : v < 2 ^ 32) (hld : loadL M (x.r.getD 17 0) (x.r.getD 16 0) 4 = some v) (a b : Nat) (n : Int) (ha : a < 16) (hb16 : b < 16) (hn : -32768 ≤ n ∧ n ≤ 32767) (hr : rightB ((12 : Nat) : Int) a b ((0 : Nat) : Int) n = true) (hw : wordF 12 a b 0 n = v) (qc : (v : Int) / 67108864 = 12) (qa : (v : Int) / 4194304 % 16 = a) (qb : (v : Int) / 262144 % 16 = b) (qn : IntKind.i16.wrap ((v : Int) % 65536) = n) (hl : loadL M (x.r.getD 17 0) (addN (x.r.getD b 0) (kN n)) 8 = none) :
    Calls Tryd.prog 18 #[.agg x.cells.toArray, .pointer (some ⟨mb, 0, none⟩), .int .u64 time, .int .i64 me] w (RStepP B mb pv ⟨trapS x 3 (addN (x.r.getD b 0) (kN n)), M, trapK (trapS x 3 (addN (x.r.getD b 0) (kN n))), 3⟩ w) := by
  have R := Lib.hid (Rs.new (x := x) s)
  have LC := Lib.hid (fun W => refLine_calls x hx h8 W)
  rw [hln] at LC
  have GC := Lib.hid (fun W (h : Mm B mb pv M W) => refGet_calls x hx h (x.r.getD 16 0) 4 (getD_lt hx 16) (.inl rfl))
  rw [hld] at GC
  simp only [loadE] at GC
  have hz := zero_val
  have HZL := Lib.hid zero_ok.len
  have HX := Lib.hid hx
  have I0 := Lib.hid (info_se hx)
  have I26 := Lib.hid size26
  have XL := Lib.hid hx.len
  have ZL := Lib.hid (fun (a : Nat) (ha : a < 26) => ha)
  have G16 := Lib.hid (hx.gr (i := 16) (by decide))
  have G23 := Lib.hid hx.g23
  rw [hst] at G23
  have FC : Hid (∀ W, Calls Tryd.prog 12 #[.int .u8 12] W fun e w' => e = .returned (.int .i64 11) ∧ Below W.heap.size W w') := fun W => refFields_calls 12 (by decide) W
  have RR : Hid (∀ W, Calls Tryd.prog 27 #[.int .u8 12, .int .u8 (a : Int), .int .u8 (b : Int), .int .u8 0, .int .i16 n] W fun e w' => e = .returned (.bool true) ∧ Below W.heap.size W w') := fun W => hr ▸ refRight_calls 12 a b 0 n W
  have RW : Hid (∀ W, Calls Tryd.prog 13 #[.int .u8 12, .int .u8 (a : Int), .int .u8 (b : Int), .int .u8 0, .int .i16 n] W fun e w' => e = .returned (.int .u32 (v : Int)) ∧ Below W.heap.size W w') := fun W => hw ▸ refWord_calls 12 a b 0 n (by decide) ha hb16 (by decide) W
  clear hr hw
  have HA := Lib.hid ha
  have HB := Lib.hid hb16
  have hwk := kN_wrap n
  have KL := Lib.hid (kN_lt n)
  have hwx := nx_wrap x
  have NL := Lib.hid (nx_lt x)
  have GA := Lib.hid (hx.gr (i := a) (by omega))
  have GB := Lib.hid (hx.gr (i := b) (by omega))
  have GD := Lib.hid (hx.gr (i := 0) (by omega))
  have HVA := Lib.hid (getD_lt hx a)
  have HVB := Lib.hid (getD_lt hx b)
  have HVD := Lib.hid (getD_lt hx 0)
  have hai : (a : Int) ≤ 15 := by omega
  have hbi : (b : Int) ≤ 15 := by omega
  have hai0 : 0 ≤ (a : Int) := by omega
  have hbi0 : 0 ≤ (b : Int) := by omega
  have hai1 : (a : Int) < 16 := by omega
  have hbi1 : (b : Int) < 16 := by omega
  have hai2 : ¬ (a : Int) < 0 := by omega
  have hbi2 : ¬ (b : Int) < 0 := by omega
  have GC8 := Lib.hid (fun W (h : Mm B mb pv M W) => refGet_calls x hx h (addN (x.r.getD b 0) (kN n)) 8 (addN_lt _ _) (.inr rfl))
  rw [hl] at GC8
  simp only [loadE] at GC8
  clear hl
  have TC := Lib.hid (fun W => trapped_calls x hx 3 (addN (x.r.getD b 0) (kN n)) (by decide) (addN_lt _ _) W)
  have TO := Lib.hid (trap_ok hx (c := 3) (a := (addN (x.r.getD b 0) (kN n))) (by decide) (addN_lt _ _))
  unfold trappedE at TC
  have hwa := add_wrap (x.r.getD b 0) (kN n)
  have AL := Lib.hid (addN_lt (x.r.getD b 0) (kN n))
  generalize trapS x 3 (addN (x.r.getD b 0) (kN n)) = y at *
  generalize hTK : trapK y = tk at *
  have hTK := Lib.hid hTK
  generalize addN (x.r.getD b 0) (kN n) = ad at *
  generalize kN n = kk at *
  generalize nxN x = nx at *
  generalize x.r.getD a 0 = va at *
  generalize x.r.getD b 0 = vb at *
  generalize x.r.getD 0 0 = vd at *
  clear hln hld s hx h8 hst
  generalize x.r.getD 16 0 = pc at *
  generalize hZC : zeroSe.cells = ZC at *
  have hZC := Lib.hid hZC
  have hzs : ZC.toArray.size = 26 := by simpa using HZL.out
  have hzn : ¬ ZC.toArray = #[] := fun h => by rw [h] at hzs; simp at hzs
  generalize hXC : x.cells = XC at *
  have hXC := Lib.hid hXC
  go_enter Tryd.func18, Tryd.ntmps18
  go_upto_region 1 with (fail)
  generalize hw1 : (w.alloc (.cells _ 26)).alloc _ = w1 at *
  clear hw1 hzs hzn hz
  have c23 := R.out.s.cellAt (hXC.out ▸ G23.out)
  go_upto_region 4 with (first
    | (refine wpList_load_mid rfl 26 (.tmp 4) rfl w.heap.size 0 rfl XC _ (hXC.out ▸ range_all R.out.s) Tryd.underlying26 rfl I0.out ?_)
    | (go_at_call 17; refine (LC.out _).mono ?_; rintro e w2 ⟨rfl, b2⟩; have R2 := Lib.hid (R.out.step b2); clear b2))
  clear R LC c23
  have c16 := R2.out.s.cellAt (hXC.out ▸ G16.out)
  go_upto_region 8 with (first
    | (refine wpList_load_mid rfl 26 (.tmp 4) rfl w.heap.size 0 rfl XC _ (hXC.out ▸ range_all R2.out.s) Tryd.underlying26 rfl I0.out ?_)
    | (go_at_call 26; refine (GC.out _ R2.out.m).mono ?_; rintro e w3 ⟨rfl, b3⟩; have R3 := Lib.hid (R2.out.step b3); clear b3))
  clear R2 GC c16
  go_upto_region 18 with (go_at_call 12; refine (FC.out _).mono ?_; rintro e w4 ⟨rfl, b4⟩; have R4 := Lib.hid (R3.out.step b4); clear b4)
  clear FC R3
  go_upto_region 20 with (first
    | (go_at_call 27; refine (RR.out _).mono ?_; rintro e w5 ⟨rfl, b5⟩; have R5 := Lib.hid (R4.out.step b5); clear b5)
    | (go_at_call 13; refine (RW.out _).mono ?_; rintro e w6 ⟨rfl, b6⟩; have R6 := Lib.hid (R5.out.step b6); clear b6))
  clear R4 R5 RR RW
  have c16 := R6.out.s.cellAt (hXC.out ▸ G16.out)
  have cA := R6.out.s.cellAt (hXC.out ▸ GA.out)
  have cB := R6.out.s.cellAt (hXC.out ▸ GB.out)
  have cD := R6.out.s.cellAt (hXC.out ▸ GD.out)
  go_upto_region 51 with (first
    | (refine wpList_load_mid rfl 26 (.tmp 4) rfl w.heap.size 0 rfl XC _ (hXC.out ▸ range_all R6.out.s) Tryd.underlying26 rfl I0.out ?_)
    | (go_at_call 26; refine (GC8.out _ R6.out.m).mono ?_; rintro e w8 ⟨rfl, b8⟩; have R7 := Lib.hid (R6.out.step b8); clear b8))
  clear GC8 R6 c16 cA cB cD
  have RA := Lib.hid (hXC.out ▸ range_all R7.out.s)
  have YL := Lib.hid TO.out.len
  have I2 := Lib.hid (info_se TO.out)
  have HO := Lib.hid (Se.one y)
  go_wp2_with (first
    | (refine wpList_load_mid rfl 26 (.tmp 4) rfl w.heap.size 0 rfl XC _ RA.out Tryd.underlying26 rfl I0.out ?_)
    | (go_at_call 25; refine (TC.out _).mono ?_; rintro e w8 ⟨rfl, b8⟩; have R8 := Lib.hid (R7.out.step b8); have F := Lib.hid (R8.out.fin TO.out tk 3); clear b8)
    | (refine wpList_store_mid rfl 26 (.tmp 8) (.tmp 244) rfl (w.heap.size + 1) 0 y.cells.toArray rfl rfl (there_of_blk R8.out.z ?s1) ?s2 ?s3 ?_))
  case s1 => have h1 := zero_ok.len; have h2 := YL.out; simp; omega
  case s2 => simpa using I2.out
  case s3 => first | exact HO.out | exact all_oneCell_toArray HO.out
  refine bodyPost_ret (v := .tuple #[.agg y.cells.toArray, .int .u8 (tk : Int), .int .u64 3]) (results_ctt Tryd.results18 _ _ (w.heap.size + 1) y.cells _ rfl F.out.2 Tryd.underlying26 rfl I2.out) rfl F.out.1
set_option maxRecDepth 8000 in
set_option maxHeartbeats 8000000 in
theorem rs_st {B mb : Nat} {pv : Nat → Value} {M : Me} {w : World} (x : Se) (hx : x.Ok) (h8 : x.Ok8) (s : Mm B mb pv M w) (time me : Int) (hst : x.st = 0) (hln : lineL x = -1) (v : Nat) (hv : v < 2 ^ 32) (hld : loadL M (x.r.getD 17 0) (x.r.getD 16 0) 4 = some v) (a b : Nat) (n : Int) (ha : a < 16) (hb16 : b < 16) (hn : -32768 ≤ n ∧ n ≤ 32767) (hr : rightB ((13 : Nat) : Int) a b ((0 : Nat) : Int) n = true) (hw : wordF 13 a b 0 n = v) (qc : (v : Int) / 67108864 = 13) (qa : (v : Int) / 4194304 % 16 = a) (qb : (v : Int) / 262144 % 16 = b) (qn : IntKind.i16.wrap ((v : Int) % 65536) = n) (M1 : Me) (hl : saveL M (x.r.getD 17 0) (addN (x.r.getD b 0) (kN n)) (x.r.getD a 0) = some M1) :
    Calls Tryd.prog 18 #[.agg x.cells.toArray, .pointer (some ⟨mb, 0, none⟩), .int .u64 time, .int .i64 me] w (RStepP B mb pv ⟨x.reg 16 (nxN x), M1, 0, 0⟩ w) := by
  have R := Lib.hid (Rs.new (x := x) s)
  have LC := Lib.hid (fun W => refLine_calls x hx h8 W)
  rw [hln] at LC
  have GC := Lib.hid (fun W (h : Mm B mb pv M W) => refGet_calls x hx h (x.r.getD 16 0) 4 (getD_lt hx 16) (.inl rfl))
  rw [hld] at GC
  simp only [loadE] at GC
  have hz := zero_val
  have HZL := Lib.hid zero_ok.len
  have HX := Lib.hid hx
  have I0 := Lib.hid (info_se hx)
  have I26 := Lib.hid size26
  have XL := Lib.hid hx.len
  have ZL := Lib.hid (fun (a : Nat) (ha : a < 26) => ha)
  have G16 := Lib.hid (hx.gr (i := 16) (by decide))
  have G23 := Lib.hid hx.g23
  rw [hst] at G23
  have FC : Hid (∀ W, Calls Tryd.prog 12 #[.int .u8 13] W fun e w' => e = .returned (.int .i64 11) ∧ Below W.heap.size W w') := fun W => refFields_calls 13 (by decide) W
  have RR : Hid (∀ W, Calls Tryd.prog 27 #[.int .u8 13, .int .u8 (a : Int), .int .u8 (b : Int), .int .u8 0, .int .i16 n] W fun e w' => e = .returned (.bool true) ∧ Below W.heap.size W w') := fun W => hr ▸ refRight_calls 13 a b 0 n W
  have RW : Hid (∀ W, Calls Tryd.prog 13 #[.int .u8 13, .int .u8 (a : Int), .int .u8 (b : Int), .int .u8 0, .int .i16 n] W fun e w' => e = .returned (.int .u32 (v : Int)) ∧ Below W.heap.size W w') := fun W => hw ▸ refWord_calls 13 a b 0 n (by decide) ha hb16 (by decide) W
  clear hr hw
  have HA := Lib.hid ha
  have HB := Lib.hid hb16
  have hwk := kN_wrap n
  have KL := Lib.hid (kN_lt n)
  have hwx := nx_wrap x
  have NL := Lib.hid (nx_lt x)
  have GA := Lib.hid (hx.gr (i := a) (by omega))
  have GB := Lib.hid (hx.gr (i := b) (by omega))
  have GD := Lib.hid (hx.gr (i := 0) (by omega))
  have HVA := Lib.hid (getD_lt hx a)
  have HVB := Lib.hid (getD_lt hx b)
  have HVD := Lib.hid (getD_lt hx 0)
  have hai : (a : Int) ≤ 15 := by omega
  have hbi : (b : Int) ≤ 15 := by omega
  have hai0 : 0 ≤ (a : Int) := by omega
  have hbi0 : 0 ≤ (b : Int) := by omega
  have hai1 : (a : Int) < 16 := by omega
  have hbi1 : (b : Int) < 16 := by omega
  have hai2 : ¬ (a : Int) < 0 := by omega
  have hbi2 : ¬ (b : Int) < 0 := by omega
  have PC8 := Lib.hid (fun W (h : Mm B mb pv M W) => refPut_calls x hx h (addN (x.r.getD b 0) (kN n)) (x.r.getD a 0) (addN_lt _ _) (getD_lt hx a))
  rw [hl] at PC8
  unfold SaveR at PC8
  dsimp only [Option.isSome, Option.getD] at PC8
  clear hl
  have hwa := add_wrap (x.r.getD b 0) (kN n)
  have AL := Lib.hid (addN_lt (x.r.getD b 0) (kN n))
  generalize addN (x.r.getD b 0) (kN n) = ad at *
  generalize kN n = kk at *
  generalize nxN x = nx at *
  generalize x.r.getD a 0 = va at *
  generalize x.r.getD b 0 = vb at *
  generalize x.r.getD 0 0 = vd at *
  clear hln hld s hx h8 hst
  generalize x.r.getD 16 0 = pc at *
  generalize hZC : zeroSe.cells = ZC at *
  have hZC := Lib.hid hZC
  have hzs : ZC.toArray.size = 26 := by simpa using HZL.out
  have hzn : ¬ ZC.toArray = #[] := fun h => by rw [h] at hzs; simp at hzs
  generalize hXC : x.cells = XC at *
  have hXC := Lib.hid hXC
  go_enter Tryd.func18, Tryd.ntmps18
  go_upto_region 1 with (fail)
  generalize hw1 : (w.alloc (.cells _ 26)).alloc _ = w1 at *
  clear hw1 hzs hzn hz
  have c23 := R.out.s.cellAt (hXC.out ▸ G23.out)
  go_upto_region 4 with (first
    | (refine wpList_load_mid rfl 26 (.tmp 4) rfl w.heap.size 0 rfl XC _ (hXC.out ▸ range_all R.out.s) Tryd.underlying26 rfl I0.out ?_)
    | (go_at_call 17; refine (LC.out _).mono ?_; rintro e w2 ⟨rfl, b2⟩; have R2 := Lib.hid (R.out.step b2); clear b2))
  clear R LC c23
  have c16 := R2.out.s.cellAt (hXC.out ▸ G16.out)
  go_upto_region 8 with (first
    | (refine wpList_load_mid rfl 26 (.tmp 4) rfl w.heap.size 0 rfl XC _ (hXC.out ▸ range_all R2.out.s) Tryd.underlying26 rfl I0.out ?_)
    | (go_at_call 26; refine (GC.out _ R2.out.m).mono ?_; rintro e w3 ⟨rfl, b3⟩; have R3 := Lib.hid (R2.out.step b3); clear b3))
  clear R2 GC c16
  go_upto_region 18 with (go_at_call 12; refine (FC.out _).mono ?_; rintro e w4 ⟨rfl, b4⟩; have R4 := Lib.hid (R3.out.step b4); clear b4)
  clear FC R3
  go_upto_region 20 with (first
    | (go_at_call 27; refine (RR.out _).mono ?_; rintro e w5 ⟨rfl, b5⟩; have R5 := Lib.hid (R4.out.step b5); clear b5)
    | (go_at_call 13; refine (RW.out _).mono ?_; rintro e w6 ⟨rfl, b6⟩; have R6 := Lib.hid (R5.out.step b6); clear b6))
  clear R4 R5 RR RW
  have c16 := R6.out.s.cellAt (hXC.out ▸ G16.out)
  have cA := R6.out.s.cellAt (hXC.out ▸ GA.out)
  have cB := R6.out.s.cellAt (hXC.out ▸ GB.out)
  have cD := R6.out.s.cellAt (hXC.out ▸ GD.out)
  go_upto_region 103 with (first
    | (refine wpList_load_mid rfl 26 (.tmp 4) rfl w.heap.size 0 rfl XC _ (hXC.out ▸ range_all R6.out.s) Tryd.underlying26 rfl I0.out ?_)
    | (go_at_call 28; refine (PC8.out _ R6.out.m).mono ?_; rintro e w8 ⟨rfl, m8, k8⟩; have E1 := Lib.hid (R6.out.save m8 k8); clear m8 k8))
  clear PC8 R6 c16 cA cB cD
  have OK1 := Lib.hid (show (x).Ok from HX.out)
  have t16 := E1.out.s.cellAt (OK1.out.gr (i := 16) (by decide))
  have tf := E1.out.s.unfrozen 16
  have E2 := Lib.hid (E1.out.reg OK1.out (a := 16) (by decide) nx)
  have OK2 := Lib.hid (OK1.out.reg (a := 16) (v := nx) NL.out)
  clear E1 OK1
  go_upto_region 104 with (fail)
  have F := Lib.hid (E2.out.fin OK2.out 0 0)
  have RA := Lib.hid (range_all E2.out.s)
  have RZ := Lib.hid E2.out.z
  rw [hZC.out] at RZ
  have I2 := Lib.hid (info_se OK2.out)
  have HO := Lib.hid (Se.one ((x).reg 16 nx))
  have YL := Lib.hid OK2.out.len
  generalize hw9 : World.setCell _ _ _ = w9 at *
  clear hw9
  clear E2
  generalize ((x).reg 16 nx).cells = YC at *
  go_wp2_with (first
    | (refine wpList_load_mid rfl 26 (.tmp 4) rfl w.heap.size 0 rfl YC _ RA.out Tryd.underlying26 rfl I2.out ?_)
    | (refine wpList_store_mid rfl 26 (.tmp 8) (.tmp 410) rfl (w.heap.size + 1) 0 YC.toArray rfl rfl (there_of_blk RZ.out ?s1) ?s2 ?s3 ?_))
  case s1 => have h1 := HZL.out; have h2 := YL.out; simp; omega
  case s2 => simpa using I2.out
  case s3 => first | exact HO.out | exact all_oneCell_toArray HO.out
  refine bodyPost_ret (v := .tuple #[.agg YC.toArray, .int .u8 0, .int .u64 0]) (results_ctt Tryd.results18 _ _ (w.heap.size + 1) YC _ rfl F.out.2 Tryd.underlying26 rfl I2.out) rfl F.out.1
set_option maxRecDepth 8000 in
set_option maxHeartbeats 8000000 in
theorem rs_stBad {B mb : Nat} {pv : Nat → Value} {M : Me} {w : World} (x : Se) (hx : x.Ok) (h8 : x.Ok8) (s : Mm B mb pv M w) (time me : Int) (hst : x.st = 0) (hln : lineL x = -1) (v : Nat) (hv : v < 2 ^ 32) (hld : loadL M (x.r.getD 17 0) (x.r.getD 16 0) 4 = some v) (a b : Nat) (n : Int) (ha : a < 16) (hb16 : b < 16) (hn : -32768 ≤ n ∧ n ≤ 32767) (hr : rightB ((13 : Nat) : Int) a b ((0 : Nat) : Int) n = true) (hw : wordF 13 a b 0 n = v) (qc : (v : Int) / 67108864 = 13) (qa : (v : Int) / 4194304 % 16 = a) (qb : (v : Int) / 262144 % 16 = b) (qn : IntKind.i16.wrap ((v : Int) % 65536) = n) (hl : saveL M (x.r.getD 17 0) (addN (x.r.getD b 0) (kN n)) (x.r.getD a 0) = none) :
    Calls Tryd.prog 18 #[.agg x.cells.toArray, .pointer (some ⟨mb, 0, none⟩), .int .u64 time, .int .i64 me] w (RStepP B mb pv ⟨trapS x 4 (addN (x.r.getD b 0) (kN n)), M, trapK (trapS x 4 (addN (x.r.getD b 0) (kN n))), 4⟩ w) := by
  have R := Lib.hid (Rs.new (x := x) s)
  have LC := Lib.hid (fun W => refLine_calls x hx h8 W)
  rw [hln] at LC
  have GC := Lib.hid (fun W (h : Mm B mb pv M W) => refGet_calls x hx h (x.r.getD 16 0) 4 (getD_lt hx 16) (.inl rfl))
  rw [hld] at GC
  simp only [loadE] at GC
  have hz := zero_val
  have HZL := Lib.hid zero_ok.len
  have HX := Lib.hid hx
  have I0 := Lib.hid (info_se hx)
  have I26 := Lib.hid size26
  have XL := Lib.hid hx.len
  have ZL := Lib.hid (fun (a : Nat) (ha : a < 26) => ha)
  have G16 := Lib.hid (hx.gr (i := 16) (by decide))
  have G23 := Lib.hid hx.g23
  rw [hst] at G23
  have FC : Hid (∀ W, Calls Tryd.prog 12 #[.int .u8 13] W fun e w' => e = .returned (.int .i64 11) ∧ Below W.heap.size W w') := fun W => refFields_calls 13 (by decide) W
  have RR : Hid (∀ W, Calls Tryd.prog 27 #[.int .u8 13, .int .u8 (a : Int), .int .u8 (b : Int), .int .u8 0, .int .i16 n] W fun e w' => e = .returned (.bool true) ∧ Below W.heap.size W w') := fun W => hr ▸ refRight_calls 13 a b 0 n W
  have RW : Hid (∀ W, Calls Tryd.prog 13 #[.int .u8 13, .int .u8 (a : Int), .int .u8 (b : Int), .int .u8 0, .int .i16 n] W fun e w' => e = .returned (.int .u32 (v : Int)) ∧ Below W.heap.size W w') := fun W => hw ▸ refWord_calls 13 a b 0 n (by decide) ha hb16 (by decide) W
  clear hr hw
  have HA := Lib.hid ha
  have HB := Lib.hid hb16
  have hwk := kN_wrap n
  have KL := Lib.hid (kN_lt n)
  have hwx := nx_wrap x
  have NL := Lib.hid (nx_lt x)
  have GA := Lib.hid (hx.gr (i := a) (by omega))
  have GB := Lib.hid (hx.gr (i := b) (by omega))
  have GD := Lib.hid (hx.gr (i := 0) (by omega))
  have HVA := Lib.hid (getD_lt hx a)
  have HVB := Lib.hid (getD_lt hx b)
  have HVD := Lib.hid (getD_lt hx 0)
  have hai : (a : Int) ≤ 15 := by omega
  have hbi : (b : Int) ≤ 15 := by omega
  have hai0 : 0 ≤ (a : Int) := by omega
  have hbi0 : 0 ≤ (b : Int) := by omega
  have hai1 : (a : Int) < 16 := by omega
  have hbi1 : (b : Int) < 16 := by omega
  have hai2 : ¬ (a : Int) < 0 := by omega
  have hbi2 : ¬ (b : Int) < 0 := by omega
  have PC8 := Lib.hid (fun W (h : Mm B mb pv M W) => refPut_calls x hx h (addN (x.r.getD b 0) (kN n)) (x.r.getD a 0) (addN_lt _ _) (getD_lt hx a))
  rw [hl] at PC8
  unfold SaveR at PC8
  dsimp only [Option.isSome, Option.getD] at PC8
  clear hl
  have TC := Lib.hid (fun W => trapped_calls x hx 4 (addN (x.r.getD b 0) (kN n)) (by decide) (addN_lt _ _) W)
  have TO := Lib.hid (trap_ok hx (c := 4) (a := (addN (x.r.getD b 0) (kN n))) (by decide) (addN_lt _ _))
  unfold trappedE at TC
  have hwa := add_wrap (x.r.getD b 0) (kN n)
  have AL := Lib.hid (addN_lt (x.r.getD b 0) (kN n))
  generalize trapS x 4 (addN (x.r.getD b 0) (kN n)) = y at *
  generalize hTK : trapK y = tk at *
  have hTK := Lib.hid hTK
  generalize addN (x.r.getD b 0) (kN n) = ad at *
  generalize kN n = kk at *
  generalize nxN x = nx at *
  generalize x.r.getD a 0 = va at *
  generalize x.r.getD b 0 = vb at *
  generalize x.r.getD 0 0 = vd at *
  clear hln hld s hx h8 hst
  generalize x.r.getD 16 0 = pc at *
  generalize hZC : zeroSe.cells = ZC at *
  have hZC := Lib.hid hZC
  have hzs : ZC.toArray.size = 26 := by simpa using HZL.out
  have hzn : ¬ ZC.toArray = #[] := fun h => by rw [h] at hzs; simp at hzs
  generalize hXC : x.cells = XC at *
  have hXC := Lib.hid hXC
  go_enter Tryd.func18, Tryd.ntmps18
  go_upto_region 1 with (fail)
  generalize hw1 : (w.alloc (.cells _ 26)).alloc _ = w1 at *
  clear hw1 hzs hzn hz
  have c23 := R.out.s.cellAt (hXC.out ▸ G23.out)
  go_upto_region 4 with (first
    | (refine wpList_load_mid rfl 26 (.tmp 4) rfl w.heap.size 0 rfl XC _ (hXC.out ▸ range_all R.out.s) Tryd.underlying26 rfl I0.out ?_)
    | (go_at_call 17; refine (LC.out _).mono ?_; rintro e w2 ⟨rfl, b2⟩; have R2 := Lib.hid (R.out.step b2); clear b2))
  clear R LC c23
  have c16 := R2.out.s.cellAt (hXC.out ▸ G16.out)
  go_upto_region 8 with (first
    | (refine wpList_load_mid rfl 26 (.tmp 4) rfl w.heap.size 0 rfl XC _ (hXC.out ▸ range_all R2.out.s) Tryd.underlying26 rfl I0.out ?_)
    | (go_at_call 26; refine (GC.out _ R2.out.m).mono ?_; rintro e w3 ⟨rfl, b3⟩; have R3 := Lib.hid (R2.out.step b3); clear b3))
  clear R2 GC c16
  go_upto_region 18 with (go_at_call 12; refine (FC.out _).mono ?_; rintro e w4 ⟨rfl, b4⟩; have R4 := Lib.hid (R3.out.step b4); clear b4)
  clear FC R3
  go_upto_region 20 with (first
    | (go_at_call 27; refine (RR.out _).mono ?_; rintro e w5 ⟨rfl, b5⟩; have R5 := Lib.hid (R4.out.step b5); clear b5)
    | (go_at_call 13; refine (RW.out _).mono ?_; rintro e w6 ⟨rfl, b6⟩; have R6 := Lib.hid (R5.out.step b6); clear b6))
  clear R4 R5 RR RW
  have c16 := R6.out.s.cellAt (hXC.out ▸ G16.out)
  have cA := R6.out.s.cellAt (hXC.out ▸ GA.out)
  have cB := R6.out.s.cellAt (hXC.out ▸ GB.out)
  have cD := R6.out.s.cellAt (hXC.out ▸ GD.out)
  go_upto_region 55 with (first
    | (refine wpList_load_mid rfl 26 (.tmp 4) rfl w.heap.size 0 rfl XC _ (hXC.out ▸ range_all R6.out.s) Tryd.underlying26 rfl I0.out ?_)
    | (go_at_call 28; refine (PC8.out _ R6.out.m).mono ?_; rintro e w8 ⟨rfl, m8, k8⟩; have R7 := Lib.hid (R6.out.save m8 k8); clear m8 k8))
  clear PC8 R6 c16 cA cB cD
  have RA := Lib.hid (hXC.out ▸ range_all R7.out.s)
  have YL := Lib.hid TO.out.len
  have I2 := Lib.hid (info_se TO.out)
  have HO := Lib.hid (Se.one y)
  go_wp2_with (first
    | (refine wpList_load_mid rfl 26 (.tmp 4) rfl w.heap.size 0 rfl XC _ RA.out Tryd.underlying26 rfl I0.out ?_)
    | (go_at_call 25; refine (TC.out _).mono ?_; rintro e w8 ⟨rfl, b8⟩; have R8 := Lib.hid (R7.out.step b8); have F := Lib.hid (R8.out.fin TO.out tk 4); clear b8)
    | (refine wpList_store_mid rfl 26 (.tmp 8) (.tmp 266) rfl (w.heap.size + 1) 0 y.cells.toArray rfl rfl (there_of_blk R8.out.z ?s1) ?s2 ?s3 ?_))
  case s1 => have h1 := zero_ok.len; have h2 := YL.out; simp; omega
  case s2 => simpa using I2.out
  case s3 => first | exact HO.out | exact all_oneCell_toArray HO.out
  refine bodyPost_ret (v := .tuple #[.agg y.cells.toArray, .int .u8 (tk : Int), .int .u64 4]) (results_ctt Tryd.results18 _ _ (w.heap.size + 1) y.cells _ rfl F.out.2 Tryd.underlying26 rfl I2.out) rfl F.out.1
set_option maxRecDepth 8000 in
set_option maxHeartbeats 8000000 in
theorem rs_br14t {B mb : Nat} {pv : Nat → Value} {M : Me} {w : World} (x : Se) (hx : x.Ok) (h8 : x.Ok8) (s : Mm B mb pv M w) (time me : Int) (hst : x.st = 0) (hln : lineL x = -1) (v : Nat) (hv : v < 2 ^ 32) (hld : loadL M (x.r.getD 17 0) (x.r.getD 16 0) 4 = some v) (a b : Nat) (n : Int) (ha : a < 16) (hb16 : b < 16) (hn : -32768 ≤ n ∧ n ≤ 32767) (hr : rightB ((14 : Nat) : Int) a b ((0 : Nat) : Int) n = true) (hw : wordF 14 a b 0 n = v) (qc : (v : Int) / 67108864 = 14) (qa : (v : Int) / 4194304 % 16 = a) (qb : (v : Int) / 262144 % 16 = b) (qn : IntKind.i16.wrap ((v : Int) % 65536) = n) (ht : takenB 14 (x.r.getD a 0) (x.r.getD b 0) = true) :
    Calls Tryd.prog 18 #[.agg x.cells.toArray, .pointer (some ⟨mb, 0, none⟩), .int .u64 time, .int .i64 me] w (RStepP B mb pv ⟨x.reg 16 (jmpN (x.r.getD 16 0) (kN n)), M, 0, 0⟩ w) := by
  have R := Lib.hid (Rs.new (x := x) s)
  have LC := Lib.hid (fun W => refLine_calls x hx h8 W)
  rw [hln] at LC
  have GC := Lib.hid (fun W (h : Mm B mb pv M W) => refGet_calls x hx h (x.r.getD 16 0) 4 (getD_lt hx 16) (.inl rfl))
  rw [hld] at GC
  simp only [loadE] at GC
  have hz := zero_val
  have HZL := Lib.hid zero_ok.len
  have HX := Lib.hid hx
  have I0 := Lib.hid (info_se hx)
  have I26 := Lib.hid size26
  have XL := Lib.hid hx.len
  have ZL := Lib.hid (fun (a : Nat) (ha : a < 26) => ha)
  have G16 := Lib.hid (hx.gr (i := 16) (by decide))
  have G23 := Lib.hid hx.g23
  rw [hst] at G23
  have FC : Hid (∀ W, Calls Tryd.prog 12 #[.int .u8 14] W fun e w' => e = .returned (.int .i64 11) ∧ Below W.heap.size W w') := fun W => refFields_calls 14 (by decide) W
  have RR : Hid (∀ W, Calls Tryd.prog 27 #[.int .u8 14, .int .u8 (a : Int), .int .u8 (b : Int), .int .u8 0, .int .i16 n] W fun e w' => e = .returned (.bool true) ∧ Below W.heap.size W w') := fun W => hr ▸ refRight_calls 14 a b 0 n W
  have RW : Hid (∀ W, Calls Tryd.prog 13 #[.int .u8 14, .int .u8 (a : Int), .int .u8 (b : Int), .int .u8 0, .int .i16 n] W fun e w' => e = .returned (.int .u32 (v : Int)) ∧ Below W.heap.size W w') := fun W => hw ▸ refWord_calls 14 a b 0 n (by decide) ha hb16 (by decide) W
  clear hr hw
  have HA := Lib.hid ha
  have HB := Lib.hid hb16
  have hwk := kN_wrap n
  have KL := Lib.hid (kN_lt n)
  have hwx := nx_wrap x
  have NL := Lib.hid (nx_lt x)
  have GA := Lib.hid (hx.gr (i := a) (by omega))
  have GB := Lib.hid (hx.gr (i := b) (by omega))
  have GD := Lib.hid (hx.gr (i := 0) (by omega))
  have HVA := Lib.hid (getD_lt hx a)
  have HVB := Lib.hid (getD_lt hx b)
  have HVD := Lib.hid (getD_lt hx 0)
  have hai : (a : Int) ≤ 15 := by omega
  have hbi : (b : Int) ≤ 15 := by omega
  have hai0 : 0 ≤ (a : Int) := by omega
  have hbi0 : 0 ≤ (b : Int) := by omega
  have hai1 : (a : Int) < 16 := by omega
  have hbi1 : (b : Int) < 16 := by omega
  have hai2 : ¬ (a : Int) < 0 := by omega
  have hbi2 : ¬ (b : Int) < 0 := by omega
  have he : (((x.r.getD a 0 : Nat) : Int) == ((x.r.getD b 0 : Nat) : Int)) = true := by unfold takenB at ht; rw [if_pos rfl] at ht; simp at ht ⊢; omega
  clear ht
  have hwj := jmp_wrap (x.r.getD 16 0) (kN n)
  have JL := Lib.hid (jmp_lt (x.r.getD 16 0) (kN n))
  generalize jmpN (x.r.getD 16 0) (kN n) = jp at *
  generalize kN n = kk at *
  generalize nxN x = nx at *
  generalize x.r.getD a 0 = va at *
  generalize x.r.getD b 0 = vb at *
  generalize x.r.getD 0 0 = vd at *
  clear hln hld s hx h8 hst
  generalize x.r.getD 16 0 = pc at *
  generalize hZC : zeroSe.cells = ZC at *
  have hZC := Lib.hid hZC
  have hzs : ZC.toArray.size = 26 := by simpa using HZL.out
  have hzn : ¬ ZC.toArray = #[] := fun h => by rw [h] at hzs; simp at hzs
  generalize hXC : x.cells = XC at *
  have hXC := Lib.hid hXC
  go_enter Tryd.func18, Tryd.ntmps18
  go_upto_region 1 with (fail)
  generalize hw1 : (w.alloc (.cells _ 26)).alloc _ = w1 at *
  clear hw1 hzs hzn hz
  have c23 := R.out.s.cellAt (hXC.out ▸ G23.out)
  go_upto_region 4 with (first
    | (refine wpList_load_mid rfl 26 (.tmp 4) rfl w.heap.size 0 rfl XC _ (hXC.out ▸ range_all R.out.s) Tryd.underlying26 rfl I0.out ?_)
    | (go_at_call 17; refine (LC.out _).mono ?_; rintro e w2 ⟨rfl, b2⟩; have R2 := Lib.hid (R.out.step b2); clear b2))
  clear R LC c23
  have c16 := R2.out.s.cellAt (hXC.out ▸ G16.out)
  go_upto_region 8 with (first
    | (refine wpList_load_mid rfl 26 (.tmp 4) rfl w.heap.size 0 rfl XC _ (hXC.out ▸ range_all R2.out.s) Tryd.underlying26 rfl I0.out ?_)
    | (go_at_call 26; refine (GC.out _ R2.out.m).mono ?_; rintro e w3 ⟨rfl, b3⟩; have R3 := Lib.hid (R2.out.step b3); clear b3))
  clear R2 GC c16
  go_upto_region 18 with (go_at_call 12; refine (FC.out _).mono ?_; rintro e w4 ⟨rfl, b4⟩; have R4 := Lib.hid (R3.out.step b4); clear b4)
  clear FC R3
  go_upto_region 20 with (first
    | (go_at_call 27; refine (RR.out _).mono ?_; rintro e w5 ⟨rfl, b5⟩; have R5 := Lib.hid (R4.out.step b5); clear b5)
    | (go_at_call 13; refine (RW.out _).mono ?_; rintro e w6 ⟨rfl, b6⟩; have R6 := Lib.hid (R5.out.step b6); clear b6))
  clear R4 R5 RR RW
  have c16 := R6.out.s.cellAt (hXC.out ▸ G16.out)
  have cA := R6.out.s.cellAt (hXC.out ▸ GA.out)
  have cB := R6.out.s.cellAt (hXC.out ▸ GB.out)
  have cD := R6.out.s.cellAt (hXC.out ▸ GD.out)
  go_upto_region 103 with (fail)
  have E1 := R6
  have OK1 := Lib.hid (show (x).Ok from HX.out)
  have t16 := E1.out.s.cellAt (OK1.out.gr (i := 16) (by decide))
  have tf := E1.out.s.unfrozen 16
  have E2 := Lib.hid (E1.out.reg OK1.out (a := 16) (by decide) jp)
  have OK2 := Lib.hid (OK1.out.reg (a := 16) (v := jp) JL.out)
  clear E1 OK1
  go_upto_region 104 with (fail)
  have F := Lib.hid (E2.out.fin OK2.out 0 0)
  have RA := Lib.hid (range_all E2.out.s)
  have RZ := Lib.hid E2.out.z
  rw [hZC.out] at RZ
  have I2 := Lib.hid (info_se OK2.out)
  have HO := Lib.hid (Se.one ((x).reg 16 jp))
  have YL := Lib.hid OK2.out.len
  generalize hw9 : World.setCell _ _ _ = w9 at *
  clear hw9
  clear E2
  generalize ((x).reg 16 jp).cells = YC at *
  go_wp2_with (first
    | (refine wpList_load_mid rfl 26 (.tmp 4) rfl w.heap.size 0 rfl YC _ RA.out Tryd.underlying26 rfl I2.out ?_)
    | (refine wpList_store_mid rfl 26 (.tmp 8) (.tmp 410) rfl (w.heap.size + 1) 0 YC.toArray rfl rfl (there_of_blk RZ.out ?s1) ?s2 ?s3 ?_))
  case s1 => have h1 := HZL.out; have h2 := YL.out; simp; omega
  case s2 => simpa using I2.out
  case s3 => first | exact HO.out | exact all_oneCell_toArray HO.out
  refine bodyPost_ret (v := .tuple #[.agg YC.toArray, .int .u8 0, .int .u64 0]) (results_ctt Tryd.results18 _ _ (w.heap.size + 1) YC _ rfl F.out.2 Tryd.underlying26 rfl I2.out) rfl F.out.1
set_option maxRecDepth 8000 in
set_option maxHeartbeats 8000000 in
theorem rs_br14f {B mb : Nat} {pv : Nat → Value} {M : Me} {w : World} (x : Se) (hx : x.Ok) (h8 : x.Ok8) (s : Mm B mb pv M w) (time me : Int) (hst : x.st = 0) (hln : lineL x = -1) (v : Nat) (hv : v < 2 ^ 32) (hld : loadL M (x.r.getD 17 0) (x.r.getD 16 0) 4 = some v) (a b : Nat) (n : Int) (ha : a < 16) (hb16 : b < 16) (hn : -32768 ≤ n ∧ n ≤ 32767) (hr : rightB ((14 : Nat) : Int) a b ((0 : Nat) : Int) n = true) (hw : wordF 14 a b 0 n = v) (qc : (v : Int) / 67108864 = 14) (qa : (v : Int) / 4194304 % 16 = a) (qb : (v : Int) / 262144 % 16 = b) (qn : IntKind.i16.wrap ((v : Int) % 65536) = n) (ht : takenB 14 (x.r.getD a 0) (x.r.getD b 0) = false) :
    Calls Tryd.prog 18 #[.agg x.cells.toArray, .pointer (some ⟨mb, 0, none⟩), .int .u64 time, .int .i64 me] w (RStepP B mb pv ⟨x.reg 16 (nxN x), M, 0, 0⟩ w) := by
  have R := Lib.hid (Rs.new (x := x) s)
  have LC := Lib.hid (fun W => refLine_calls x hx h8 W)
  rw [hln] at LC
  have GC := Lib.hid (fun W (h : Mm B mb pv M W) => refGet_calls x hx h (x.r.getD 16 0) 4 (getD_lt hx 16) (.inl rfl))
  rw [hld] at GC
  simp only [loadE] at GC
  have hz := zero_val
  have HZL := Lib.hid zero_ok.len
  have HX := Lib.hid hx
  have I0 := Lib.hid (info_se hx)
  have I26 := Lib.hid size26
  have XL := Lib.hid hx.len
  have ZL := Lib.hid (fun (a : Nat) (ha : a < 26) => ha)
  have G16 := Lib.hid (hx.gr (i := 16) (by decide))
  have G23 := Lib.hid hx.g23
  rw [hst] at G23
  have FC : Hid (∀ W, Calls Tryd.prog 12 #[.int .u8 14] W fun e w' => e = .returned (.int .i64 11) ∧ Below W.heap.size W w') := fun W => refFields_calls 14 (by decide) W
  have RR : Hid (∀ W, Calls Tryd.prog 27 #[.int .u8 14, .int .u8 (a : Int), .int .u8 (b : Int), .int .u8 0, .int .i16 n] W fun e w' => e = .returned (.bool true) ∧ Below W.heap.size W w') := fun W => hr ▸ refRight_calls 14 a b 0 n W
  have RW : Hid (∀ W, Calls Tryd.prog 13 #[.int .u8 14, .int .u8 (a : Int), .int .u8 (b : Int), .int .u8 0, .int .i16 n] W fun e w' => e = .returned (.int .u32 (v : Int)) ∧ Below W.heap.size W w') := fun W => hw ▸ refWord_calls 14 a b 0 n (by decide) ha hb16 (by decide) W
  clear hr hw
  have HA := Lib.hid ha
  have HB := Lib.hid hb16
  have hwk := kN_wrap n
  have KL := Lib.hid (kN_lt n)
  have hwx := nx_wrap x
  have NL := Lib.hid (nx_lt x)
  have GA := Lib.hid (hx.gr (i := a) (by omega))
  have GB := Lib.hid (hx.gr (i := b) (by omega))
  have GD := Lib.hid (hx.gr (i := 0) (by omega))
  have HVA := Lib.hid (getD_lt hx a)
  have HVB := Lib.hid (getD_lt hx b)
  have HVD := Lib.hid (getD_lt hx 0)
  have hai : (a : Int) ≤ 15 := by omega
  have hbi : (b : Int) ≤ 15 := by omega
  have hai0 : 0 ≤ (a : Int) := by omega
  have hbi0 : 0 ≤ (b : Int) := by omega
  have hai1 : (a : Int) < 16 := by omega
  have hbi1 : (b : Int) < 16 := by omega
  have hai2 : ¬ (a : Int) < 0 := by omega
  have hbi2 : ¬ (b : Int) < 0 := by omega
  have he : (((x.r.getD a 0 : Nat) : Int) == ((x.r.getD b 0 : Nat) : Int)) = false := by unfold takenB at ht; rw [if_pos rfl] at ht; simp at ht ⊢; omega
  clear ht
  generalize kN n = kk at *
  generalize nxN x = nx at *
  generalize x.r.getD a 0 = va at *
  generalize x.r.getD b 0 = vb at *
  generalize x.r.getD 0 0 = vd at *
  clear hln hld s hx h8 hst
  generalize x.r.getD 16 0 = pc at *
  generalize hZC : zeroSe.cells = ZC at *
  have hZC := Lib.hid hZC
  have hzs : ZC.toArray.size = 26 := by simpa using HZL.out
  have hzn : ¬ ZC.toArray = #[] := fun h => by rw [h] at hzs; simp at hzs
  generalize hXC : x.cells = XC at *
  have hXC := Lib.hid hXC
  go_enter Tryd.func18, Tryd.ntmps18
  go_upto_region 1 with (fail)
  generalize hw1 : (w.alloc (.cells _ 26)).alloc _ = w1 at *
  clear hw1 hzs hzn hz
  have c23 := R.out.s.cellAt (hXC.out ▸ G23.out)
  go_upto_region 4 with (first
    | (refine wpList_load_mid rfl 26 (.tmp 4) rfl w.heap.size 0 rfl XC _ (hXC.out ▸ range_all R.out.s) Tryd.underlying26 rfl I0.out ?_)
    | (go_at_call 17; refine (LC.out _).mono ?_; rintro e w2 ⟨rfl, b2⟩; have R2 := Lib.hid (R.out.step b2); clear b2))
  clear R LC c23
  have c16 := R2.out.s.cellAt (hXC.out ▸ G16.out)
  go_upto_region 8 with (first
    | (refine wpList_load_mid rfl 26 (.tmp 4) rfl w.heap.size 0 rfl XC _ (hXC.out ▸ range_all R2.out.s) Tryd.underlying26 rfl I0.out ?_)
    | (go_at_call 26; refine (GC.out _ R2.out.m).mono ?_; rintro e w3 ⟨rfl, b3⟩; have R3 := Lib.hid (R2.out.step b3); clear b3))
  clear R2 GC c16
  go_upto_region 18 with (go_at_call 12; refine (FC.out _).mono ?_; rintro e w4 ⟨rfl, b4⟩; have R4 := Lib.hid (R3.out.step b4); clear b4)
  clear FC R3
  go_upto_region 20 with (first
    | (go_at_call 27; refine (RR.out _).mono ?_; rintro e w5 ⟨rfl, b5⟩; have R5 := Lib.hid (R4.out.step b5); clear b5)
    | (go_at_call 13; refine (RW.out _).mono ?_; rintro e w6 ⟨rfl, b6⟩; have R6 := Lib.hid (R5.out.step b6); clear b6))
  clear R4 R5 RR RW
  have c16 := R6.out.s.cellAt (hXC.out ▸ G16.out)
  have cA := R6.out.s.cellAt (hXC.out ▸ GA.out)
  have cB := R6.out.s.cellAt (hXC.out ▸ GB.out)
  have cD := R6.out.s.cellAt (hXC.out ▸ GD.out)
  go_upto_region 103 with (fail)
  have E1 := R6
  have OK1 := Lib.hid (show (x).Ok from HX.out)
  have t16 := E1.out.s.cellAt (OK1.out.gr (i := 16) (by decide))
  have tf := E1.out.s.unfrozen 16
  have E2 := Lib.hid (E1.out.reg OK1.out (a := 16) (by decide) nx)
  have OK2 := Lib.hid (OK1.out.reg (a := 16) (v := nx) NL.out)
  clear E1 OK1
  go_upto_region 104 with (fail)
  have F := Lib.hid (E2.out.fin OK2.out 0 0)
  have RA := Lib.hid (range_all E2.out.s)
  have RZ := Lib.hid E2.out.z
  rw [hZC.out] at RZ
  have I2 := Lib.hid (info_se OK2.out)
  have HO := Lib.hid (Se.one ((x).reg 16 nx))
  have YL := Lib.hid OK2.out.len
  generalize hw9 : World.setCell _ _ _ = w9 at *
  clear hw9
  clear E2
  generalize ((x).reg 16 nx).cells = YC at *
  go_wp2_with (first
    | (refine wpList_load_mid rfl 26 (.tmp 4) rfl w.heap.size 0 rfl YC _ RA.out Tryd.underlying26 rfl I2.out ?_)
    | (refine wpList_store_mid rfl 26 (.tmp 8) (.tmp 410) rfl (w.heap.size + 1) 0 YC.toArray rfl rfl (there_of_blk RZ.out ?s1) ?s2 ?s3 ?_))
  case s1 => have h1 := HZL.out; have h2 := YL.out; simp; omega
  case s2 => simpa using I2.out
  case s3 => first | exact HO.out | exact all_oneCell_toArray HO.out
  refine bodyPost_ret (v := .tuple #[.agg YC.toArray, .int .u8 0, .int .u64 0]) (results_ctt Tryd.results18 _ _ (w.heap.size + 1) YC _ rfl F.out.2 Tryd.underlying26 rfl I2.out) rfl F.out.1
set_option maxRecDepth 8000 in
set_option maxHeartbeats 8000000 in
theorem rs_br15t {B mb : Nat} {pv : Nat → Value} {M : Me} {w : World} (x : Se) (hx : x.Ok) (h8 : x.Ok8) (s : Mm B mb pv M w) (time me : Int) (hst : x.st = 0) (hln : lineL x = -1) (v : Nat) (hv : v < 2 ^ 32) (hld : loadL M (x.r.getD 17 0) (x.r.getD 16 0) 4 = some v) (a b : Nat) (n : Int) (ha : a < 16) (hb16 : b < 16) (hn : -32768 ≤ n ∧ n ≤ 32767) (hr : rightB ((15 : Nat) : Int) a b ((0 : Nat) : Int) n = true) (hw : wordF 15 a b 0 n = v) (qc : (v : Int) / 67108864 = 15) (qa : (v : Int) / 4194304 % 16 = a) (qb : (v : Int) / 262144 % 16 = b) (qn : IntKind.i16.wrap ((v : Int) % 65536) = n) (ht : takenB 15 (x.r.getD a 0) (x.r.getD b 0) = true) :
    Calls Tryd.prog 18 #[.agg x.cells.toArray, .pointer (some ⟨mb, 0, none⟩), .int .u64 time, .int .i64 me] w (RStepP B mb pv ⟨x.reg 16 (jmpN (x.r.getD 16 0) (kN n)), M, 0, 0⟩ w) := by
  have R := Lib.hid (Rs.new (x := x) s)
  have LC := Lib.hid (fun W => refLine_calls x hx h8 W)
  rw [hln] at LC
  have GC := Lib.hid (fun W (h : Mm B mb pv M W) => refGet_calls x hx h (x.r.getD 16 0) 4 (getD_lt hx 16) (.inl rfl))
  rw [hld] at GC
  simp only [loadE] at GC
  have hz := zero_val
  have HZL := Lib.hid zero_ok.len
  have HX := Lib.hid hx
  have I0 := Lib.hid (info_se hx)
  have I26 := Lib.hid size26
  have XL := Lib.hid hx.len
  have ZL := Lib.hid (fun (a : Nat) (ha : a < 26) => ha)
  have G16 := Lib.hid (hx.gr (i := 16) (by decide))
  have G23 := Lib.hid hx.g23
  rw [hst] at G23
  have FC : Hid (∀ W, Calls Tryd.prog 12 #[.int .u8 15] W fun e w' => e = .returned (.int .i64 11) ∧ Below W.heap.size W w') := fun W => refFields_calls 15 (by decide) W
  have RR : Hid (∀ W, Calls Tryd.prog 27 #[.int .u8 15, .int .u8 (a : Int), .int .u8 (b : Int), .int .u8 0, .int .i16 n] W fun e w' => e = .returned (.bool true) ∧ Below W.heap.size W w') := fun W => hr ▸ refRight_calls 15 a b 0 n W
  have RW : Hid (∀ W, Calls Tryd.prog 13 #[.int .u8 15, .int .u8 (a : Int), .int .u8 (b : Int), .int .u8 0, .int .i16 n] W fun e w' => e = .returned (.int .u32 (v : Int)) ∧ Below W.heap.size W w') := fun W => hw ▸ refWord_calls 15 a b 0 n (by decide) ha hb16 (by decide) W
  clear hr hw
  have HA := Lib.hid ha
  have HB := Lib.hid hb16
  have hwk := kN_wrap n
  have KL := Lib.hid (kN_lt n)
  have hwx := nx_wrap x
  have NL := Lib.hid (nx_lt x)
  have GA := Lib.hid (hx.gr (i := a) (by omega))
  have GB := Lib.hid (hx.gr (i := b) (by omega))
  have GD := Lib.hid (hx.gr (i := 0) (by omega))
  have HVA := Lib.hid (getD_lt hx a)
  have HVB := Lib.hid (getD_lt hx b)
  have HVD := Lib.hid (getD_lt hx 0)
  have hai : (a : Int) ≤ 15 := by omega
  have hbi : (b : Int) ≤ 15 := by omega
  have hai0 : 0 ≤ (a : Int) := by omega
  have hbi0 : 0 ≤ (b : Int) := by omega
  have hai1 : (a : Int) < 16 := by omega
  have hbi1 : (b : Int) < 16 := by omega
  have hai2 : ¬ (a : Int) < 0 := by omega
  have hbi2 : ¬ (b : Int) < 0 := by omega
  have he : (((x.r.getD a 0 : Nat) : Int) == ((x.r.getD b 0 : Nat) : Int)) = false := by unfold takenB at ht; rw [if_neg (by decide), if_pos rfl] at ht; simp at ht ⊢; omega
  clear ht
  have hwj := jmp_wrap (x.r.getD 16 0) (kN n)
  have JL := Lib.hid (jmp_lt (x.r.getD 16 0) (kN n))
  generalize jmpN (x.r.getD 16 0) (kN n) = jp at *
  generalize kN n = kk at *
  generalize nxN x = nx at *
  generalize x.r.getD a 0 = va at *
  generalize x.r.getD b 0 = vb at *
  generalize x.r.getD 0 0 = vd at *
  clear hln hld s hx h8 hst
  generalize x.r.getD 16 0 = pc at *
  generalize hZC : zeroSe.cells = ZC at *
  have hZC := Lib.hid hZC
  have hzs : ZC.toArray.size = 26 := by simpa using HZL.out
  have hzn : ¬ ZC.toArray = #[] := fun h => by rw [h] at hzs; simp at hzs
  generalize hXC : x.cells = XC at *
  have hXC := Lib.hid hXC
  go_enter Tryd.func18, Tryd.ntmps18
  go_upto_region 1 with (fail)
  generalize hw1 : (w.alloc (.cells _ 26)).alloc _ = w1 at *
  clear hw1 hzs hzn hz
  have c23 := R.out.s.cellAt (hXC.out ▸ G23.out)
  go_upto_region 4 with (first
    | (refine wpList_load_mid rfl 26 (.tmp 4) rfl w.heap.size 0 rfl XC _ (hXC.out ▸ range_all R.out.s) Tryd.underlying26 rfl I0.out ?_)
    | (go_at_call 17; refine (LC.out _).mono ?_; rintro e w2 ⟨rfl, b2⟩; have R2 := Lib.hid (R.out.step b2); clear b2))
  clear R LC c23
  have c16 := R2.out.s.cellAt (hXC.out ▸ G16.out)
  go_upto_region 8 with (first
    | (refine wpList_load_mid rfl 26 (.tmp 4) rfl w.heap.size 0 rfl XC _ (hXC.out ▸ range_all R2.out.s) Tryd.underlying26 rfl I0.out ?_)
    | (go_at_call 26; refine (GC.out _ R2.out.m).mono ?_; rintro e w3 ⟨rfl, b3⟩; have R3 := Lib.hid (R2.out.step b3); clear b3))
  clear R2 GC c16
  go_upto_region 18 with (go_at_call 12; refine (FC.out _).mono ?_; rintro e w4 ⟨rfl, b4⟩; have R4 := Lib.hid (R3.out.step b4); clear b4)
  clear FC R3
  go_upto_region 20 with (first
    | (go_at_call 27; refine (RR.out _).mono ?_; rintro e w5 ⟨rfl, b5⟩; have R5 := Lib.hid (R4.out.step b5); clear b5)
    | (go_at_call 13; refine (RW.out _).mono ?_; rintro e w6 ⟨rfl, b6⟩; have R6 := Lib.hid (R5.out.step b6); clear b6))
  clear R4 R5 RR RW
  have c16 := R6.out.s.cellAt (hXC.out ▸ G16.out)
  have cA := R6.out.s.cellAt (hXC.out ▸ GA.out)
  have cB := R6.out.s.cellAt (hXC.out ▸ GB.out)
  have cD := R6.out.s.cellAt (hXC.out ▸ GD.out)
  go_upto_region 103 with (fail)
  have E1 := R6
  have OK1 := Lib.hid (show (x).Ok from HX.out)
  have t16 := E1.out.s.cellAt (OK1.out.gr (i := 16) (by decide))
  have tf := E1.out.s.unfrozen 16
  have E2 := Lib.hid (E1.out.reg OK1.out (a := 16) (by decide) jp)
  have OK2 := Lib.hid (OK1.out.reg (a := 16) (v := jp) JL.out)
  clear E1 OK1
  go_upto_region 104 with (fail)
  have F := Lib.hid (E2.out.fin OK2.out 0 0)
  have RA := Lib.hid (range_all E2.out.s)
  have RZ := Lib.hid E2.out.z
  rw [hZC.out] at RZ
  have I2 := Lib.hid (info_se OK2.out)
  have HO := Lib.hid (Se.one ((x).reg 16 jp))
  have YL := Lib.hid OK2.out.len
  generalize hw9 : World.setCell _ _ _ = w9 at *
  clear hw9
  clear E2
  generalize ((x).reg 16 jp).cells = YC at *
  go_wp2_with (first
    | (refine wpList_load_mid rfl 26 (.tmp 4) rfl w.heap.size 0 rfl YC _ RA.out Tryd.underlying26 rfl I2.out ?_)
    | (refine wpList_store_mid rfl 26 (.tmp 8) (.tmp 410) rfl (w.heap.size + 1) 0 YC.toArray rfl rfl (there_of_blk RZ.out ?s1) ?s2 ?s3 ?_))
  case s1 => have h1 := HZL.out; have h2 := YL.out; simp; omega
  case s2 => simpa using I2.out
  case s3 => first | exact HO.out | exact all_oneCell_toArray HO.out
  refine bodyPost_ret (v := .tuple #[.agg YC.toArray, .int .u8 0, .int .u64 0]) (results_ctt Tryd.results18 _ _ (w.heap.size + 1) YC _ rfl F.out.2 Tryd.underlying26 rfl I2.out) rfl F.out.1
set_option maxRecDepth 8000 in
set_option maxHeartbeats 8000000 in
theorem rs_br15f {B mb : Nat} {pv : Nat → Value} {M : Me} {w : World} (x : Se) (hx : x.Ok) (h8 : x.Ok8) (s : Mm B mb pv M w) (time me : Int) (hst : x.st = 0) (hln : lineL x = -1) (v : Nat) (hv : v < 2 ^ 32) (hld : loadL M (x.r.getD 17 0) (x.r.getD 16 0) 4 = some v) (a b : Nat) (n : Int) (ha : a < 16) (hb16 : b < 16) (hn : -32768 ≤ n ∧ n ≤ 32767) (hr : rightB ((15 : Nat) : Int) a b ((0 : Nat) : Int) n = true) (hw : wordF 15 a b 0 n = v) (qc : (v : Int) / 67108864 = 15) (qa : (v : Int) / 4194304 % 16 = a) (qb : (v : Int) / 262144 % 16 = b) (qn : IntKind.i16.wrap ((v : Int) % 65536) = n) (ht : takenB 15 (x.r.getD a 0) (x.r.getD b 0) = false) :
    Calls Tryd.prog 18 #[.agg x.cells.toArray, .pointer (some ⟨mb, 0, none⟩), .int .u64 time, .int .i64 me] w (RStepP B mb pv ⟨x.reg 16 (nxN x), M, 0, 0⟩ w) := by
  have R := Lib.hid (Rs.new (x := x) s)
  have LC := Lib.hid (fun W => refLine_calls x hx h8 W)
  rw [hln] at LC
  have GC := Lib.hid (fun W (h : Mm B mb pv M W) => refGet_calls x hx h (x.r.getD 16 0) 4 (getD_lt hx 16) (.inl rfl))
  rw [hld] at GC
  simp only [loadE] at GC
  have hz := zero_val
  have HZL := Lib.hid zero_ok.len
  have HX := Lib.hid hx
  have I0 := Lib.hid (info_se hx)
  have I26 := Lib.hid size26
  have XL := Lib.hid hx.len
  have ZL := Lib.hid (fun (a : Nat) (ha : a < 26) => ha)
  have G16 := Lib.hid (hx.gr (i := 16) (by decide))
  have G23 := Lib.hid hx.g23
  rw [hst] at G23
  have FC : Hid (∀ W, Calls Tryd.prog 12 #[.int .u8 15] W fun e w' => e = .returned (.int .i64 11) ∧ Below W.heap.size W w') := fun W => refFields_calls 15 (by decide) W
  have RR : Hid (∀ W, Calls Tryd.prog 27 #[.int .u8 15, .int .u8 (a : Int), .int .u8 (b : Int), .int .u8 0, .int .i16 n] W fun e w' => e = .returned (.bool true) ∧ Below W.heap.size W w') := fun W => hr ▸ refRight_calls 15 a b 0 n W
  have RW : Hid (∀ W, Calls Tryd.prog 13 #[.int .u8 15, .int .u8 (a : Int), .int .u8 (b : Int), .int .u8 0, .int .i16 n] W fun e w' => e = .returned (.int .u32 (v : Int)) ∧ Below W.heap.size W w') := fun W => hw ▸ refWord_calls 15 a b 0 n (by decide) ha hb16 (by decide) W
  clear hr hw
  have HA := Lib.hid ha
  have HB := Lib.hid hb16
  have hwk := kN_wrap n
  have KL := Lib.hid (kN_lt n)
  have hwx := nx_wrap x
  have NL := Lib.hid (nx_lt x)
  have GA := Lib.hid (hx.gr (i := a) (by omega))
  have GB := Lib.hid (hx.gr (i := b) (by omega))
  have GD := Lib.hid (hx.gr (i := 0) (by omega))
  have HVA := Lib.hid (getD_lt hx a)
  have HVB := Lib.hid (getD_lt hx b)
  have HVD := Lib.hid (getD_lt hx 0)
  have hai : (a : Int) ≤ 15 := by omega
  have hbi : (b : Int) ≤ 15 := by omega
  have hai0 : 0 ≤ (a : Int) := by omega
  have hbi0 : 0 ≤ (b : Int) := by omega
  have hai1 : (a : Int) < 16 := by omega
  have hbi1 : (b : Int) < 16 := by omega
  have hai2 : ¬ (a : Int) < 0 := by omega
  have hbi2 : ¬ (b : Int) < 0 := by omega
  have he : (((x.r.getD a 0 : Nat) : Int) == ((x.r.getD b 0 : Nat) : Int)) = true := by unfold takenB at ht; rw [if_neg (by decide), if_pos rfl] at ht; simp at ht ⊢; omega
  clear ht
  generalize kN n = kk at *
  generalize nxN x = nx at *
  generalize x.r.getD a 0 = va at *
  generalize x.r.getD b 0 = vb at *
  generalize x.r.getD 0 0 = vd at *
  clear hln hld s hx h8 hst
  generalize x.r.getD 16 0 = pc at *
  generalize hZC : zeroSe.cells = ZC at *
  have hZC := Lib.hid hZC
  have hzs : ZC.toArray.size = 26 := by simpa using HZL.out
  have hzn : ¬ ZC.toArray = #[] := fun h => by rw [h] at hzs; simp at hzs
  generalize hXC : x.cells = XC at *
  have hXC := Lib.hid hXC
  go_enter Tryd.func18, Tryd.ntmps18
  go_upto_region 1 with (fail)
  generalize hw1 : (w.alloc (.cells _ 26)).alloc _ = w1 at *
  clear hw1 hzs hzn hz
  have c23 := R.out.s.cellAt (hXC.out ▸ G23.out)
  go_upto_region 4 with (first
    | (refine wpList_load_mid rfl 26 (.tmp 4) rfl w.heap.size 0 rfl XC _ (hXC.out ▸ range_all R.out.s) Tryd.underlying26 rfl I0.out ?_)
    | (go_at_call 17; refine (LC.out _).mono ?_; rintro e w2 ⟨rfl, b2⟩; have R2 := Lib.hid (R.out.step b2); clear b2))
  clear R LC c23
  have c16 := R2.out.s.cellAt (hXC.out ▸ G16.out)
  go_upto_region 8 with (first
    | (refine wpList_load_mid rfl 26 (.tmp 4) rfl w.heap.size 0 rfl XC _ (hXC.out ▸ range_all R2.out.s) Tryd.underlying26 rfl I0.out ?_)
    | (go_at_call 26; refine (GC.out _ R2.out.m).mono ?_; rintro e w3 ⟨rfl, b3⟩; have R3 := Lib.hid (R2.out.step b3); clear b3))
  clear R2 GC c16
  go_upto_region 18 with (go_at_call 12; refine (FC.out _).mono ?_; rintro e w4 ⟨rfl, b4⟩; have R4 := Lib.hid (R3.out.step b4); clear b4)
  clear FC R3
  go_upto_region 20 with (first
    | (go_at_call 27; refine (RR.out _).mono ?_; rintro e w5 ⟨rfl, b5⟩; have R5 := Lib.hid (R4.out.step b5); clear b5)
    | (go_at_call 13; refine (RW.out _).mono ?_; rintro e w6 ⟨rfl, b6⟩; have R6 := Lib.hid (R5.out.step b6); clear b6))
  clear R4 R5 RR RW
  have c16 := R6.out.s.cellAt (hXC.out ▸ G16.out)
  have cA := R6.out.s.cellAt (hXC.out ▸ GA.out)
  have cB := R6.out.s.cellAt (hXC.out ▸ GB.out)
  have cD := R6.out.s.cellAt (hXC.out ▸ GD.out)
  go_upto_region 103 with (fail)
  have E1 := R6
  have OK1 := Lib.hid (show (x).Ok from HX.out)
  have t16 := E1.out.s.cellAt (OK1.out.gr (i := 16) (by decide))
  have tf := E1.out.s.unfrozen 16
  have E2 := Lib.hid (E1.out.reg OK1.out (a := 16) (by decide) nx)
  have OK2 := Lib.hid (OK1.out.reg (a := 16) (v := nx) NL.out)
  clear E1 OK1
  go_upto_region 104 with (fail)
  have F := Lib.hid (E2.out.fin OK2.out 0 0)
  have RA := Lib.hid (range_all E2.out.s)
  have RZ := Lib.hid E2.out.z
  rw [hZC.out] at RZ
  have I2 := Lib.hid (info_se OK2.out)
  have HO := Lib.hid (Se.one ((x).reg 16 nx))
  have YL := Lib.hid OK2.out.len
  generalize hw9 : World.setCell _ _ _ = w9 at *
  clear hw9
  clear E2
  generalize ((x).reg 16 nx).cells = YC at *
  go_wp2_with (first
    | (refine wpList_load_mid rfl 26 (.tmp 4) rfl w.heap.size 0 rfl YC _ RA.out Tryd.underlying26 rfl I2.out ?_)
    | (refine wpList_store_mid rfl 26 (.tmp 8) (.tmp 410) rfl (w.heap.size + 1) 0 YC.toArray rfl rfl (there_of_blk RZ.out ?s1) ?s2 ?s3 ?_))
  case s1 => have h1 := HZL.out; have h2 := YL.out; simp; omega
  case s2 => simpa using I2.out
  case s3 => first | exact HO.out | exact all_oneCell_toArray HO.out
  refine bodyPost_ret (v := .tuple #[.agg YC.toArray, .int .u8 0, .int .u64 0]) (results_ctt Tryd.results18 _ _ (w.heap.size + 1) YC _ rfl F.out.2 Tryd.underlying26 rfl I2.out) rfl F.out.1
set_option maxRecDepth 8000 in
set_option maxHeartbeats 8000000 in
theorem rs_br16t {B mb : Nat} {pv : Nat → Value} {M : Me} {w : World} (x : Se) (hx : x.Ok) (h8 : x.Ok8) (s : Mm B mb pv M w) (time me : Int) (hst : x.st = 0) (hln : lineL x = -1) (v : Nat) (hv : v < 2 ^ 32) (hld : loadL M (x.r.getD 17 0) (x.r.getD 16 0) 4 = some v) (a b : Nat) (n : Int) (ha : a < 16) (hb16 : b < 16) (hn : -32768 ≤ n ∧ n ≤ 32767) (hr : rightB ((16 : Nat) : Int) a b ((0 : Nat) : Int) n = true) (hw : wordF 16 a b 0 n = v) (qc : (v : Int) / 67108864 = 16) (qa : (v : Int) / 4194304 % 16 = a) (qb : (v : Int) / 262144 % 16 = b) (qn : IntKind.i16.wrap ((v : Int) % 65536) = n) (ht : takenB 16 (x.r.getD a 0) (x.r.getD b 0) = true) :
    Calls Tryd.prog 18 #[.agg x.cells.toArray, .pointer (some ⟨mb, 0, none⟩), .int .u64 time, .int .i64 me] w (RStepP B mb pv ⟨x.reg 16 (jmpN (x.r.getD 16 0) (kN n)), M, 0, 0⟩ w) := by
  have R := Lib.hid (Rs.new (x := x) s)
  have LC := Lib.hid (fun W => refLine_calls x hx h8 W)
  rw [hln] at LC
  have GC := Lib.hid (fun W (h : Mm B mb pv M W) => refGet_calls x hx h (x.r.getD 16 0) 4 (getD_lt hx 16) (.inl rfl))
  rw [hld] at GC
  simp only [loadE] at GC
  have hz := zero_val
  have HZL := Lib.hid zero_ok.len
  have HX := Lib.hid hx
  have I0 := Lib.hid (info_se hx)
  have I26 := Lib.hid size26
  have XL := Lib.hid hx.len
  have ZL := Lib.hid (fun (a : Nat) (ha : a < 26) => ha)
  have G16 := Lib.hid (hx.gr (i := 16) (by decide))
  have G23 := Lib.hid hx.g23
  rw [hst] at G23
  have FC : Hid (∀ W, Calls Tryd.prog 12 #[.int .u8 16] W fun e w' => e = .returned (.int .i64 11) ∧ Below W.heap.size W w') := fun W => refFields_calls 16 (by decide) W
  have RR : Hid (∀ W, Calls Tryd.prog 27 #[.int .u8 16, .int .u8 (a : Int), .int .u8 (b : Int), .int .u8 0, .int .i16 n] W fun e w' => e = .returned (.bool true) ∧ Below W.heap.size W w') := fun W => hr ▸ refRight_calls 16 a b 0 n W
  have RW : Hid (∀ W, Calls Tryd.prog 13 #[.int .u8 16, .int .u8 (a : Int), .int .u8 (b : Int), .int .u8 0, .int .i16 n] W fun e w' => e = .returned (.int .u32 (v : Int)) ∧ Below W.heap.size W w') := fun W => hw ▸ refWord_calls 16 a b 0 n (by decide) ha hb16 (by decide) W
  clear hr hw
  have HA := Lib.hid ha
  have HB := Lib.hid hb16
  have hwk := kN_wrap n
  have KL := Lib.hid (kN_lt n)
  have hwx := nx_wrap x
  have NL := Lib.hid (nx_lt x)
  have GA := Lib.hid (hx.gr (i := a) (by omega))
  have GB := Lib.hid (hx.gr (i := b) (by omega))
  have GD := Lib.hid (hx.gr (i := 0) (by omega))
  have HVA := Lib.hid (getD_lt hx a)
  have HVB := Lib.hid (getD_lt hx b)
  have HVD := Lib.hid (getD_lt hx 0)
  have hai : (a : Int) ≤ 15 := by omega
  have hbi : (b : Int) ≤ 15 := by omega
  have hai0 : 0 ≤ (a : Int) := by omega
  have hbi0 : 0 ≤ (b : Int) := by omega
  have hai1 : (a : Int) < 16 := by omega
  have hbi1 : (b : Int) < 16 := by omega
  have hai2 : ¬ (a : Int) < 0 := by omega
  have hbi2 : ¬ (b : Int) < 0 := by omega
  have he : (IntKind.i64.wrap ((x.r.getD a 0 : Nat) : Int) < IntKind.i64.wrap ((x.r.getD b 0 : Nat) : Int)) := by unfold takenB at ht; rw [if_neg (by decide), if_neg (by decide)] at ht; simpa using ht
  obtain ⟨sa, hsa⟩ : ∃ q, IntKind.i64.wrap ((x.r.getD a 0 : Nat) : Int) = q := ⟨_, rfl⟩
  obtain ⟨sb, hsb⟩ : ∃ q, IntKind.i64.wrap ((x.r.getD b 0 : Nat) : Int) = q := ⟨_, rfl⟩
  rw [hsa, hsb] at he
  clear ht
  have hwj := jmp_wrap (x.r.getD 16 0) (kN n)
  have JL := Lib.hid (jmp_lt (x.r.getD 16 0) (kN n))
  generalize jmpN (x.r.getD 16 0) (kN n) = jp at *
  generalize kN n = kk at *
  generalize nxN x = nx at *
  generalize x.r.getD a 0 = va at *
  generalize x.r.getD b 0 = vb at *
  generalize x.r.getD 0 0 = vd at *
  clear hln hld s hx h8 hst
  generalize x.r.getD 16 0 = pc at *
  generalize hZC : zeroSe.cells = ZC at *
  have hZC := Lib.hid hZC
  have hzs : ZC.toArray.size = 26 := by simpa using HZL.out
  have hzn : ¬ ZC.toArray = #[] := fun h => by rw [h] at hzs; simp at hzs
  generalize hXC : x.cells = XC at *
  have hXC := Lib.hid hXC
  go_enter Tryd.func18, Tryd.ntmps18
  go_upto_region 1 with (fail)
  generalize hw1 : (w.alloc (.cells _ 26)).alloc _ = w1 at *
  clear hw1 hzs hzn hz
  have c23 := R.out.s.cellAt (hXC.out ▸ G23.out)
  go_upto_region 4 with (first
    | (refine wpList_load_mid rfl 26 (.tmp 4) rfl w.heap.size 0 rfl XC _ (hXC.out ▸ range_all R.out.s) Tryd.underlying26 rfl I0.out ?_)
    | (go_at_call 17; refine (LC.out _).mono ?_; rintro e w2 ⟨rfl, b2⟩; have R2 := Lib.hid (R.out.step b2); clear b2))
  clear R LC c23
  have c16 := R2.out.s.cellAt (hXC.out ▸ G16.out)
  go_upto_region 8 with (first
    | (refine wpList_load_mid rfl 26 (.tmp 4) rfl w.heap.size 0 rfl XC _ (hXC.out ▸ range_all R2.out.s) Tryd.underlying26 rfl I0.out ?_)
    | (go_at_call 26; refine (GC.out _ R2.out.m).mono ?_; rintro e w3 ⟨rfl, b3⟩; have R3 := Lib.hid (R2.out.step b3); clear b3))
  clear R2 GC c16
  go_upto_region 18 with (go_at_call 12; refine (FC.out _).mono ?_; rintro e w4 ⟨rfl, b4⟩; have R4 := Lib.hid (R3.out.step b4); clear b4)
  clear FC R3
  go_upto_region 20 with (first
    | (go_at_call 27; refine (RR.out _).mono ?_; rintro e w5 ⟨rfl, b5⟩; have R5 := Lib.hid (R4.out.step b5); clear b5)
    | (go_at_call 13; refine (RW.out _).mono ?_; rintro e w6 ⟨rfl, b6⟩; have R6 := Lib.hid (R5.out.step b6); clear b6))
  clear R4 R5 RR RW
  have c16 := R6.out.s.cellAt (hXC.out ▸ G16.out)
  have cA := R6.out.s.cellAt (hXC.out ▸ GA.out)
  have cB := R6.out.s.cellAt (hXC.out ▸ GB.out)
  have cD := R6.out.s.cellAt (hXC.out ▸ GD.out)
  go_upto_region 103 with (fail)
  have E1 := R6
  have OK1 := Lib.hid (show (x).Ok from HX.out)
  have t16 := E1.out.s.cellAt (OK1.out.gr (i := 16) (by decide))
  have tf := E1.out.s.unfrozen 16
  have E2 := Lib.hid (E1.out.reg OK1.out (a := 16) (by decide) jp)
  have OK2 := Lib.hid (OK1.out.reg (a := 16) (v := jp) JL.out)
  clear E1 OK1
  go_upto_region 104 with (fail)
  have F := Lib.hid (E2.out.fin OK2.out 0 0)
  have RA := Lib.hid (range_all E2.out.s)
  have RZ := Lib.hid E2.out.z
  rw [hZC.out] at RZ
  have I2 := Lib.hid (info_se OK2.out)
  have HO := Lib.hid (Se.one ((x).reg 16 jp))
  have YL := Lib.hid OK2.out.len
  generalize hw9 : World.setCell _ _ _ = w9 at *
  clear hw9
  clear E2
  generalize ((x).reg 16 jp).cells = YC at *
  go_wp2_with (first
    | (refine wpList_load_mid rfl 26 (.tmp 4) rfl w.heap.size 0 rfl YC _ RA.out Tryd.underlying26 rfl I2.out ?_)
    | (refine wpList_store_mid rfl 26 (.tmp 8) (.tmp 410) rfl (w.heap.size + 1) 0 YC.toArray rfl rfl (there_of_blk RZ.out ?s1) ?s2 ?s3 ?_))
  case s1 => have h1 := HZL.out; have h2 := YL.out; simp; omega
  case s2 => simpa using I2.out
  case s3 => first | exact HO.out | exact all_oneCell_toArray HO.out
  refine bodyPost_ret (v := .tuple #[.agg YC.toArray, .int .u8 0, .int .u64 0]) (results_ctt Tryd.results18 _ _ (w.heap.size + 1) YC _ rfl F.out.2 Tryd.underlying26 rfl I2.out) rfl F.out.1
set_option maxRecDepth 8000 in
set_option maxHeartbeats 8000000 in
theorem rs_br16f {B mb : Nat} {pv : Nat → Value} {M : Me} {w : World} (x : Se) (hx : x.Ok) (h8 : x.Ok8) (s : Mm B mb pv M w) (time me : Int) (hst : x.st = 0) (hln : lineL x = -1) (v : Nat) (hv : v < 2 ^ 32) (hld : loadL M (x.r.getD 17 0) (x.r.getD 16 0) 4 = some v) (a b : Nat) (n : Int) (ha : a < 16) (hb16 : b < 16) (hn : -32768 ≤ n ∧ n ≤ 32767) (hr : rightB ((16 : Nat) : Int) a b ((0 : Nat) : Int) n = true) (hw : wordF 16 a b 0 n = v) (qc : (v : Int) / 67108864 = 16) (qa : (v : Int) / 4194304 % 16 = a) (qb : (v : Int) / 262144 % 16 = b) (qn : IntKind.i16.wrap ((v : Int) % 65536) = n) (ht : takenB 16 (x.r.getD a 0) (x.r.getD b 0) = false) :
    Calls Tryd.prog 18 #[.agg x.cells.toArray, .pointer (some ⟨mb, 0, none⟩), .int .u64 time, .int .i64 me] w (RStepP B mb pv ⟨x.reg 16 (nxN x), M, 0, 0⟩ w) := by
  have R := Lib.hid (Rs.new (x := x) s)
  have LC := Lib.hid (fun W => refLine_calls x hx h8 W)
  rw [hln] at LC
  have GC := Lib.hid (fun W (h : Mm B mb pv M W) => refGet_calls x hx h (x.r.getD 16 0) 4 (getD_lt hx 16) (.inl rfl))
  rw [hld] at GC
  simp only [loadE] at GC
  have hz := zero_val
  have HZL := Lib.hid zero_ok.len
  have HX := Lib.hid hx
  have I0 := Lib.hid (info_se hx)
  have I26 := Lib.hid size26
  have XL := Lib.hid hx.len
  have ZL := Lib.hid (fun (a : Nat) (ha : a < 26) => ha)
  have G16 := Lib.hid (hx.gr (i := 16) (by decide))
  have G23 := Lib.hid hx.g23
  rw [hst] at G23
  have FC : Hid (∀ W, Calls Tryd.prog 12 #[.int .u8 16] W fun e w' => e = .returned (.int .i64 11) ∧ Below W.heap.size W w') := fun W => refFields_calls 16 (by decide) W
  have RR : Hid (∀ W, Calls Tryd.prog 27 #[.int .u8 16, .int .u8 (a : Int), .int .u8 (b : Int), .int .u8 0, .int .i16 n] W fun e w' => e = .returned (.bool true) ∧ Below W.heap.size W w') := fun W => hr ▸ refRight_calls 16 a b 0 n W
  have RW : Hid (∀ W, Calls Tryd.prog 13 #[.int .u8 16, .int .u8 (a : Int), .int .u8 (b : Int), .int .u8 0, .int .i16 n] W fun e w' => e = .returned (.int .u32 (v : Int)) ∧ Below W.heap.size W w') := fun W => hw ▸ refWord_calls 16 a b 0 n (by decide) ha hb16 (by decide) W
  clear hr hw
  have HA := Lib.hid ha
  have HB := Lib.hid hb16
  have hwk := kN_wrap n
  have KL := Lib.hid (kN_lt n)
  have hwx := nx_wrap x
  have NL := Lib.hid (nx_lt x)
  have GA := Lib.hid (hx.gr (i := a) (by omega))
  have GB := Lib.hid (hx.gr (i := b) (by omega))
  have GD := Lib.hid (hx.gr (i := 0) (by omega))
  have HVA := Lib.hid (getD_lt hx a)
  have HVB := Lib.hid (getD_lt hx b)
  have HVD := Lib.hid (getD_lt hx 0)
  have hai : (a : Int) ≤ 15 := by omega
  have hbi : (b : Int) ≤ 15 := by omega
  have hai0 : 0 ≤ (a : Int) := by omega
  have hbi0 : 0 ≤ (b : Int) := by omega
  have hai1 : (a : Int) < 16 := by omega
  have hbi1 : (b : Int) < 16 := by omega
  have hai2 : ¬ (a : Int) < 0 := by omega
  have hbi2 : ¬ (b : Int) < 0 := by omega
  have he : ¬ (IntKind.i64.wrap ((x.r.getD a 0 : Nat) : Int) < IntKind.i64.wrap ((x.r.getD b 0 : Nat) : Int)) := by unfold takenB at ht; rw [if_neg (by decide), if_neg (by decide)] at ht; simpa using ht
  obtain ⟨sa, hsa⟩ : ∃ q, IntKind.i64.wrap ((x.r.getD a 0 : Nat) : Int) = q := ⟨_, rfl⟩
  obtain ⟨sb, hsb⟩ : ∃ q, IntKind.i64.wrap ((x.r.getD b 0 : Nat) : Int) = q := ⟨_, rfl⟩
  rw [hsa, hsb] at he
  clear ht
  generalize kN n = kk at *
  generalize nxN x = nx at *
  generalize x.r.getD a 0 = va at *
  generalize x.r.getD b 0 = vb at *
  generalize x.r.getD 0 0 = vd at *
  clear hln hld s hx h8 hst
  generalize x.r.getD 16 0 = pc at *
  generalize hZC : zeroSe.cells = ZC at *
  have hZC := Lib.hid hZC
  have hzs : ZC.toArray.size = 26 := by simpa using HZL.out
  have hzn : ¬ ZC.toArray = #[] := fun h => by rw [h] at hzs; simp at hzs
  generalize hXC : x.cells = XC at *
  have hXC := Lib.hid hXC
  go_enter Tryd.func18, Tryd.ntmps18
  go_upto_region 1 with (fail)
  generalize hw1 : (w.alloc (.cells _ 26)).alloc _ = w1 at *
  clear hw1 hzs hzn hz
  have c23 := R.out.s.cellAt (hXC.out ▸ G23.out)
  go_upto_region 4 with (first
    | (refine wpList_load_mid rfl 26 (.tmp 4) rfl w.heap.size 0 rfl XC _ (hXC.out ▸ range_all R.out.s) Tryd.underlying26 rfl I0.out ?_)
    | (go_at_call 17; refine (LC.out _).mono ?_; rintro e w2 ⟨rfl, b2⟩; have R2 := Lib.hid (R.out.step b2); clear b2))
  clear R LC c23
  have c16 := R2.out.s.cellAt (hXC.out ▸ G16.out)
  go_upto_region 8 with (first
    | (refine wpList_load_mid rfl 26 (.tmp 4) rfl w.heap.size 0 rfl XC _ (hXC.out ▸ range_all R2.out.s) Tryd.underlying26 rfl I0.out ?_)
    | (go_at_call 26; refine (GC.out _ R2.out.m).mono ?_; rintro e w3 ⟨rfl, b3⟩; have R3 := Lib.hid (R2.out.step b3); clear b3))
  clear R2 GC c16
  go_upto_region 18 with (go_at_call 12; refine (FC.out _).mono ?_; rintro e w4 ⟨rfl, b4⟩; have R4 := Lib.hid (R3.out.step b4); clear b4)
  clear FC R3
  go_upto_region 20 with (first
    | (go_at_call 27; refine (RR.out _).mono ?_; rintro e w5 ⟨rfl, b5⟩; have R5 := Lib.hid (R4.out.step b5); clear b5)
    | (go_at_call 13; refine (RW.out _).mono ?_; rintro e w6 ⟨rfl, b6⟩; have R6 := Lib.hid (R5.out.step b6); clear b6))
  clear R4 R5 RR RW
  have c16 := R6.out.s.cellAt (hXC.out ▸ G16.out)
  have cA := R6.out.s.cellAt (hXC.out ▸ GA.out)
  have cB := R6.out.s.cellAt (hXC.out ▸ GB.out)
  have cD := R6.out.s.cellAt (hXC.out ▸ GD.out)
  go_upto_region 103 with (fail)
  have E1 := R6
  have OK1 := Lib.hid (show (x).Ok from HX.out)
  have t16 := E1.out.s.cellAt (OK1.out.gr (i := 16) (by decide))
  have tf := E1.out.s.unfrozen 16
  have E2 := Lib.hid (E1.out.reg OK1.out (a := 16) (by decide) nx)
  have OK2 := Lib.hid (OK1.out.reg (a := 16) (v := nx) NL.out)
  clear E1 OK1
  go_upto_region 104 with (fail)
  have F := Lib.hid (E2.out.fin OK2.out 0 0)
  have RA := Lib.hid (range_all E2.out.s)
  have RZ := Lib.hid E2.out.z
  rw [hZC.out] at RZ
  have I2 := Lib.hid (info_se OK2.out)
  have HO := Lib.hid (Se.one ((x).reg 16 nx))
  have YL := Lib.hid OK2.out.len
  generalize hw9 : World.setCell _ _ _ = w9 at *
  clear hw9
  clear E2
  generalize ((x).reg 16 nx).cells = YC at *
  go_wp2_with (first
    | (refine wpList_load_mid rfl 26 (.tmp 4) rfl w.heap.size 0 rfl YC _ RA.out Tryd.underlying26 rfl I2.out ?_)
    | (refine wpList_store_mid rfl 26 (.tmp 8) (.tmp 410) rfl (w.heap.size + 1) 0 YC.toArray rfl rfl (there_of_blk RZ.out ?s1) ?s2 ?s3 ?_))
  case s1 => have h1 := HZL.out; have h2 := YL.out; simp; omega
  case s2 => simpa using I2.out
  case s3 => first | exact HO.out | exact all_oneCell_toArray HO.out
  refine bodyPost_ret (v := .tuple #[.agg YC.toArray, .int .u8 0, .int .u64 0]) (results_ctt Tryd.results18 _ _ (w.heap.size + 1) YC _ rfl F.out.2 Tryd.underlying26 rfl I2.out) rfl F.out.1
set_option maxRecDepth 8000 in
set_option maxHeartbeats 8000000 in
theorem rs_jal {B mb : Nat} {pv : Nat → Value} {M : Me} {w : World} (x : Se) (hx : x.Ok) (h8 : x.Ok8) (s : Mm B mb pv M w) (time me : Int) (hst : x.st = 0) (hln : lineL x = -1) (v : Nat) (hv : v < 2 ^ 32) (hld : loadL M (x.r.getD 17 0) (x.r.getD 16 0) 4 = some v) (a b : Nat) (n : Int) (ha : a < 16) (hb16 : b < 16) (hn : -32768 ≤ n ∧ n ≤ 32767) (hr : rightB ((17 : Nat) : Int) a b ((0 : Nat) : Int) n = true) (hw : wordF 17 a b 0 n = v) (qc : (v : Int) / 67108864 = 17) (qa : (v : Int) / 4194304 % 16 = a) (qb : (v : Int) / 262144 % 16 = b) (qn : IntKind.i16.wrap ((v : Int) % 65536) = n) :
    Calls Tryd.prog 18 #[.agg x.cells.toArray, .pointer (some ⟨mb, 0, none⟩), .int .u64 time, .int .i64 me] w (RStepP B mb pv ⟨(x.reg a (nxN x)).reg 16 (addN (x.r.getD b 0) (kN n)), M, 0, 0⟩ w) := by
  have R := Lib.hid (Rs.new (x := x) s)
  have LC := Lib.hid (fun W => refLine_calls x hx h8 W)
  rw [hln] at LC
  have GC := Lib.hid (fun W (h : Mm B mb pv M W) => refGet_calls x hx h (x.r.getD 16 0) 4 (getD_lt hx 16) (.inl rfl))
  rw [hld] at GC
  simp only [loadE] at GC
  have hz := zero_val
  have HZL := Lib.hid zero_ok.len
  have HX := Lib.hid hx
  have I0 := Lib.hid (info_se hx)
  have I26 := Lib.hid size26
  have XL := Lib.hid hx.len
  have ZL := Lib.hid (fun (a : Nat) (ha : a < 26) => ha)
  have G16 := Lib.hid (hx.gr (i := 16) (by decide))
  have G23 := Lib.hid hx.g23
  rw [hst] at G23
  have FC : Hid (∀ W, Calls Tryd.prog 12 #[.int .u8 17] W fun e w' => e = .returned (.int .i64 11) ∧ Below W.heap.size W w') := fun W => refFields_calls 17 (by decide) W
  have RR : Hid (∀ W, Calls Tryd.prog 27 #[.int .u8 17, .int .u8 (a : Int), .int .u8 (b : Int), .int .u8 0, .int .i16 n] W fun e w' => e = .returned (.bool true) ∧ Below W.heap.size W w') := fun W => hr ▸ refRight_calls 17 a b 0 n W
  have RW : Hid (∀ W, Calls Tryd.prog 13 #[.int .u8 17, .int .u8 (a : Int), .int .u8 (b : Int), .int .u8 0, .int .i16 n] W fun e w' => e = .returned (.int .u32 (v : Int)) ∧ Below W.heap.size W w') := fun W => hw ▸ refWord_calls 17 a b 0 n (by decide) ha hb16 (by decide) W
  clear hr hw
  have HA := Lib.hid ha
  have HB := Lib.hid hb16
  have hwk := kN_wrap n
  have KL := Lib.hid (kN_lt n)
  have hwx := nx_wrap x
  have NL := Lib.hid (nx_lt x)
  have GA := Lib.hid (hx.gr (i := a) (by omega))
  have GB := Lib.hid (hx.gr (i := b) (by omega))
  have GD := Lib.hid (hx.gr (i := 0) (by omega))
  have HVA := Lib.hid (getD_lt hx a)
  have HVB := Lib.hid (getD_lt hx b)
  have HVD := Lib.hid (getD_lt hx 0)
  have hai : (a : Int) ≤ 15 := by omega
  have hbi : (b : Int) ≤ 15 := by omega
  have hai0 : 0 ≤ (a : Int) := by omega
  have hbi0 : 0 ≤ (b : Int) := by omega
  have hai1 : (a : Int) < 16 := by omega
  have hbi1 : (b : Int) < 16 := by omega
  have hai2 : ¬ (a : Int) < 0 := by omega
  have hbi2 : ¬ (b : Int) < 0 := by omega
  have hwa := add_wrap (x.r.getD b 0) (kN n)
  have AL := Lib.hid (addN_lt (x.r.getD b 0) (kN n))
  generalize addN (x.r.getD b 0) (kN n) = ad at *
  generalize kN n = kk at *
  generalize nxN x = nx at *
  generalize x.r.getD a 0 = va at *
  generalize x.r.getD b 0 = vb at *
  generalize x.r.getD 0 0 = vd at *
  clear hln hld s hx h8 hst
  generalize x.r.getD 16 0 = pc at *
  generalize hZC : zeroSe.cells = ZC at *
  have hZC := Lib.hid hZC
  have hzs : ZC.toArray.size = 26 := by simpa using HZL.out
  have hzn : ¬ ZC.toArray = #[] := fun h => by rw [h] at hzs; simp at hzs
  generalize hXC : x.cells = XC at *
  have hXC := Lib.hid hXC
  go_enter Tryd.func18, Tryd.ntmps18
  go_upto_region 1 with (fail)
  generalize hw1 : (w.alloc (.cells _ 26)).alloc _ = w1 at *
  clear hw1 hzs hzn hz
  have c23 := R.out.s.cellAt (hXC.out ▸ G23.out)
  go_upto_region 4 with (first
    | (refine wpList_load_mid rfl 26 (.tmp 4) rfl w.heap.size 0 rfl XC _ (hXC.out ▸ range_all R.out.s) Tryd.underlying26 rfl I0.out ?_)
    | (go_at_call 17; refine (LC.out _).mono ?_; rintro e w2 ⟨rfl, b2⟩; have R2 := Lib.hid (R.out.step b2); clear b2))
  clear R LC c23
  have c16 := R2.out.s.cellAt (hXC.out ▸ G16.out)
  go_upto_region 8 with (first
    | (refine wpList_load_mid rfl 26 (.tmp 4) rfl w.heap.size 0 rfl XC _ (hXC.out ▸ range_all R2.out.s) Tryd.underlying26 rfl I0.out ?_)
    | (go_at_call 26; refine (GC.out _ R2.out.m).mono ?_; rintro e w3 ⟨rfl, b3⟩; have R3 := Lib.hid (R2.out.step b3); clear b3))
  clear R2 GC c16
  go_upto_region 18 with (go_at_call 12; refine (FC.out _).mono ?_; rintro e w4 ⟨rfl, b4⟩; have R4 := Lib.hid (R3.out.step b4); clear b4)
  clear FC R3
  go_upto_region 20 with (first
    | (go_at_call 27; refine (RR.out _).mono ?_; rintro e w5 ⟨rfl, b5⟩; have R5 := Lib.hid (R4.out.step b5); clear b5)
    | (go_at_call 13; refine (RW.out _).mono ?_; rintro e w6 ⟨rfl, b6⟩; have R6 := Lib.hid (R5.out.step b6); clear b6))
  clear R4 R5 RR RW
  have c16 := R6.out.s.cellAt (hXC.out ▸ G16.out)
  have cA := R6.out.s.cellAt (hXC.out ▸ GA.out)
  have cB := R6.out.s.cellAt (hXC.out ▸ GB.out)
  have cD := R6.out.s.cellAt (hXC.out ▸ GD.out)
  have fA := R6.out.s.unfrozen a
  have E1 := Lib.hid (R6.out.reg HX.out (a := a) (by have := HA.out; omega) nx)
  go_upto_region 103 with (fail)
  generalize World.setCell _ _ _ = w7 at *
  have OK1 := Lib.hid (show (x.reg a nx).Ok from HX.out.reg (a := a) NL.out)
  have t16 := E1.out.s.cellAt (OK1.out.gr (i := 16) (by decide))
  have tf := E1.out.s.unfrozen 16
  have E2 := Lib.hid (E1.out.reg OK1.out (a := 16) (by decide) ad)
  have OK2 := Lib.hid (OK1.out.reg (a := 16) (v := ad) AL.out)
  clear E1 OK1
  go_upto_region 104 with (fail)
  have F := Lib.hid (E2.out.fin OK2.out 0 0)
  have RA := Lib.hid (range_all E2.out.s)
  have RZ := Lib.hid E2.out.z
  rw [hZC.out] at RZ
  have I2 := Lib.hid (info_se OK2.out)
  have HO := Lib.hid (Se.one ((x.reg a nx).reg 16 ad))
  have YL := Lib.hid OK2.out.len
  generalize hw9 : World.setCell _ _ _ = w9 at *
  clear hw9
  clear E2
  generalize ((x.reg a nx).reg 16 ad).cells = YC at *
  go_wp2_with (first
    | (refine wpList_load_mid rfl 26 (.tmp 4) rfl w.heap.size 0 rfl YC _ RA.out Tryd.underlying26 rfl I2.out ?_)
    | (refine wpList_store_mid rfl 26 (.tmp 8) (.tmp 410) rfl (w.heap.size + 1) 0 YC.toArray rfl rfl (there_of_blk RZ.out ?s1) ?s2 ?s3 ?_))
  case s1 => have h1 := HZL.out; have h2 := YL.out; simp; omega
  case s2 => simpa using I2.out
  case s3 => first | exact HO.out | exact all_oneCell_toArray HO.out
  refine bodyPost_ret (v := .tuple #[.agg YC.toArray, .int .u8 0, .int .u64 0]) (results_ctt Tryd.results18 _ _ (w.heap.size + 1) YC _ rfl F.out.2 Tryd.underlying26 rfl I2.out) rfl F.out.1
end Go.Proofs.YtjlodddlbgpcdaaDoor.Walks
