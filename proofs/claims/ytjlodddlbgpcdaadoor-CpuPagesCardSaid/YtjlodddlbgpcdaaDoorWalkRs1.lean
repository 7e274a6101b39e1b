/- Walks through the functions of the statement, and the statement over them: each contract says what the call answers and that nothing else changes. -/
import Derived.Test.YtjlodddlbgpcdaaDoorProg
import Derived.Test.YtjlodddlbgpcdaaDoorBits
import Derived.Test.YtjlodddlbgpcdaaDoorHeap
import Derived.Test.YtjlodddlbgpcdaaDoorAid
import Derived.Test.YtjlodddlbgpcdaaDoorArr
import Derived.Test.YtjlodddlbgpcdaaDoorEql
import Derived.Test.YtjlodddlbgpcdaaDoorWalkBase
import Derived.Test.YtjlodddlbgpcdaaDoorWalkCode
import Derived.Test.YtjlodddlbgpcdaaDoorWalkSeat
import Derived.Test.YtjlodddlbgpcdaaDoorWalkRef
import Derived.Test.YtjlodddlbgpcdaaDoorWalkRefR
import Derived.Test.YtjlodddlbgpcdaaDoorWalkBus
import Derived.Test.YtjlodddlbgpcdaaDoorWalkBus2
import Derived.Test.YtjlodddlbgpcdaaDoorWalkRefP
import Derived.Test.YtjlodddlbgpcdaaDoorWalkRefG
import Derived.Test.YtjlodddlbgpcdaaDoorWalkRefL
import Derived.Test.YtjlodddlbgpcdaaDoorWalkDo
import Derived.Test.YtjlodddlbgpcdaaDoorWalkDo2
import Derived.Test.YtjlodddlbgpcdaaDoorWalkStep
import Derived.Test.YtjlodddlbgpcdaaDoorWalkSome
import Derived.Test.YtjlodddlbgpcdaaDoorWalkAwake
import Derived.Test.YtjlodddlbgpcdaaDoorWalkNil
import Derived.Test.YtjlodddlbgpcdaaDoorWalkPl
import Derived.Test.YtjlodddlbgpcdaaDoorWalkRs0
import Derived.Lib.Hide
import Derived.WalkKit
import Derived.WalkSpells
import Derived.WalkLawsBesides
import Derived.Deep.QuietTactic
import Derived.BigQuiet
import Derived.Deep.RegionHeld3
import Derived.Deep.DeepCutAuto
import Derived.Deep.CutBlock
import Derived.Lib.SlBytesConst
import Derived.StillTailTactics
import Derived.RegionTactic
import Derived.Deep.RegionLaw
import Derived.Laws.BytesString
import Derived.Laws.MakeOwn
import Derived.Deep.AppendLies
import Derived.Laws.CopyOwn
import Derived.Maps.AppendAt
import Derived.Deep.Upon
import Derived.Deep.AppendSrc
import Derived.Shelf.Abstract
import Derived.Shelf.Spec.TrailingZeros
namespace Go.Proofs.YtjlodddlbgpcdaaDoor.Walks
set_option linter.unusedVariables false
set_option linter.unusedSimpArgs false
open Go.RowKit Go.Proofs.YtjlodddlbgpcdaaDoor.Bits Go.Proofs.YtjlodddlbgpcdaaDoor.Heap Go.Proofs.YtjlodddlbgpcdaaDoor.Aid Go.Proofs.YtjlodddlbgpcdaaDoor.Arr Go.Proofs.YtjlodddlbgpcdaaDoor.Eql

set_option maxRecDepth 8000 in
set_option maxHeartbeats 8000000 in
theorem rs_zero {B mb : Nat} {pv : Nat → Value} {M : Me} {w : World} (x : Se) (hx : x.Ok) (h8 : x.Ok8) (s : Mm B mb pv M w) (time me : Int) (hst : x.st = 0) (hln : lineL x = -1) (v : Nat) (hv : v < 2 ^ 32) (hld : loadL M (x.r.getD 17 0) (x.r.getD 16 0) 4 = some v) (a b : Nat) (n : Int) (ha : a < 16) (hb16 : b < 16) (hn : -32768 ≤ n ∧ n ≤ 32767) (hr : rightB ((0 : Nat) : Int) a b ((0 : Nat) : Int) n = true) (hw : wordF 0 a b 0 n = v) (qc : (v : Int) / 67108864 = 0) (qa : (v : Int) / 4194304 % 16 = a) (qb : (v : Int) / 262144 % 16 = b) (qn : IntKind.i16.wrap ((v : Int) % 65536) = n) :
    Calls Tryd.prog 18 #[.agg x.cells.toArray, .pointer (some ⟨mb, 0, none⟩), .int .u64 time, .int .i64 me] w (RStepP B mb pv ⟨x.reg 16 (nxN x), M, 0, 0⟩ w) := by
  have R := Lib.hid (Rs.new (x := x) s)
  have LC := Lib.hid (fun W => refLine_calls x hx h8 W)
  rw [hln] at LC
  have GC := Lib.hid (fun W (h : Mm B mb pv M W) => refGet_calls x hx h (x.r.getD 16 0) 4 (getD_lt hx 16) (.inl rfl))
  rw [hld] at GC
  simp only [loadE] at GC
  have hz := zero_val
  have HZL := Lib.hid zero_ok.len
  have HX := Lib.hid hx
  have I0 := Lib.hid (info_se hx)
  have I26 := Lib.hid size26
  have XL := Lib.hid hx.len
  have ZL := Lib.hid (fun (a : Nat) (ha : a < 26) => ha)
  have G16 := Lib.hid (hx.gr (i := 16) (by decide))
  have G23 := Lib.hid hx.g23
  rw [hst] at G23
  have FC : Hid (∀ W, Calls Tryd.prog 12 #[.int .u8 0] W fun e w' => e = .returned (.int .i64 0) ∧ Below W.heap.size W w') := fun W => refFields_calls 0 (by decide) W
  have RR : Hid (∀ W, Calls Tryd.prog 27 #[.int .u8 0, .int .u8 (a : Int), .int .u8 (b : Int), .int .u8 0, .int .i16 n] W fun e w' => e = .returned (.bool true) ∧ Below W.heap.size W w') := fun W => hr ▸ refRight_calls 0 a b 0 n W
  have RW : Hid (∀ W, Calls Tryd.prog 13 #[.int .u8 0, .int .u8 (a : Int), .int .u8 (b : Int), .int .u8 0, .int .i16 n] W fun e w' => e = .returned (.int .u32 (v : Int)) ∧ Below W.heap.size W w') := fun W => hw ▸ refWord_calls 0 a b 0 n (by decide) ha hb16 (by decide) W
  clear hr hw
  have HA := Lib.hid ha
  have HB := Lib.hid hb16
  have hwk := kN_wrap n
  have KL := Lib.hid (kN_lt n)
  have hwx := nx_wrap x
  have NL := Lib.hid (nx_lt x)
  have GA := Lib.hid (hx.gr (i := a) (by omega))
  have GB := Lib.hid (hx.gr (i := b) (by omega))
  have GD := Lib.hid (hx.gr (i := 0) (by omega))
  have HVA := Lib.hid (getD_lt hx a)
  have HVB := Lib.hid (getD_lt hx b)
  have HVD := Lib.hid (getD_lt hx 0)
  have hai : (a : Int) ≤ 15 := by omega
  have hbi : (b : Int) ≤ 15 := by omega
  have hai0 : 0 ≤ (a : Int) := by omega
  have hbi0 : 0 ≤ (b : Int) := by omega
  have hai1 : (a : Int) < 16 := by omega
  have hbi1 : (b : Int) < 16 := by omega
  have hai2 : ¬ (a : Int) < 0 := by omega
  have hbi2 : ¬ (b : Int) < 0 := by omega
  generalize kN n = kk at *
  generalize nxN x = nx at *
  generalize x.r.getD a 0 = va at *
  generalize x.r.getD b 0 = vb at *
  generalize x.r.getD 0 0 = vd at *
  clear hln hld s hx h8 hst
  generalize x.r.getD 16 0 = pc at *
  generalize hZC : zeroSe.cells = ZC at *
  have hZC := Lib.hid hZC
  have hzs : ZC.toArray.size = 26 := by simpa using HZL.out
  have hzn : ¬ ZC.toArray = #[] := fun h => by rw [h] at hzs; simp at hzs
  generalize hXC : x.cells = XC at *
  have hXC := Lib.hid hXC
  go_enter Tryd.func18, Tryd.ntmps18
  go_upto_region 1 with (fail)
  generalize hw1 : (w.alloc (.cells _ 26)).alloc _ = w1 at *
  clear hw1 hzs hzn hz
  have c23 := R.out.s.cellAt (hXC.out ▸ G23.out)
  go_upto_region 4 with (first
    | (refine wpList_load_mid rfl 26 (.tmp 4) rfl w.heap.size 0 rfl XC _ (hXC.out ▸ range_all R.out.s) Tryd.underlying26 rfl I0.out ?_)
    | (go_at_call 17; refine (LC.out _).mono ?_; rintro e w2 ⟨rfl, b2⟩; have R2 := Lib.hid (R.out.step b2); clear b2))
  clear R LC c23
  have c16 := R2.out.s.cellAt (hXC.out ▸ G16.out)
  go_upto_region 8 with (first
    | (refine wpList_load_mid rfl 26 (.tmp 4) rfl w.heap.size 0 rfl XC _ (hXC.out ▸ range_all R2.out.s) Tryd.underlying26 rfl I0.out ?_)
    | (go_at_call 26; refine (GC.out _ R2.out.m).mono ?_; rintro e w3 ⟨rfl, b3⟩; have R3 := Lib.hid (R2.out.step b3); clear b3))
  clear R2 GC c16
  go_upto_region 18 with (go_at_call 12; refine (FC.out _).mono ?_; rintro e w4 ⟨rfl, b4⟩; have R4 := Lib.hid (R3.out.step b4); clear b4)
  clear FC R3
  go_upto_region 20 with (first
    | (go_at_call 27; refine (RR.out _).mono ?_; rintro e w5 ⟨rfl, b5⟩; have R5 := Lib.hid (R4.out.step b5); clear b5)
    | (go_at_call 13; refine (RW.out _).mono ?_; rintro e w6 ⟨rfl, b6⟩; have R6 := Lib.hid (R5.out.step b6); clear b6))
  clear R4 R5 RR RW
  have c16 := R6.out.s.cellAt (hXC.out ▸ G16.out)
  have cA := R6.out.s.cellAt (hXC.out ▸ GA.out)
  have cB := R6.out.s.cellAt (hXC.out ▸ GB.out)
  have cD := R6.out.s.cellAt (hXC.out ▸ GD.out)
  go_upto_region 103 with (fail)
  have E1 := R6
  have OK1 := Lib.hid (show (x).Ok from HX.out)
  have t16 := E1.out.s.cellAt (OK1.out.gr (i := 16) (by decide))
  have tf := E1.out.s.unfrozen 16
  have E2 := Lib.hid (E1.out.reg OK1.out (a := 16) (by decide) nx)
  have OK2 := Lib.hid (OK1.out.reg (a := 16) (v := nx) NL.out)
  clear E1 OK1
  go_upto_region 104 with (fail)
  have F := Lib.hid (E2.out.fin OK2.out 0 0)
  have RA := Lib.hid (range_all E2.out.s)
  have RZ := Lib.hid E2.out.z
  rw [hZC.out] at RZ
  have I2 := Lib.hid (info_se OK2.out)
  have HO := Lib.hid (Se.one ((x).reg 16 nx))
  have YL := Lib.hid OK2.out.len
  generalize hw9 : World.setCell _ _ _ = w9 at *
  clear hw9
  clear E2
  generalize ((x).reg 16 nx).cells = YC at *
  go_wp2_with (first
    | (refine wpList_load_mid rfl 26 (.tmp 4) rfl w.heap.size 0 rfl YC _ RA.out Tryd.underlying26 rfl I2.out ?_)
    | (refine wpList_store_mid rfl 26 (.tmp 8) (.tmp 410) rfl (w.heap.size + 1) 0 YC.toArray rfl rfl (there_of_blk RZ.out ?s1) ?s2 ?s3 ?_))
  case s1 => have h1 := HZL.out; have h2 := YL.out; simp; omega
  case s2 => simpa using I2.out
  case s3 => first | exact HO.out | exact all_oneCell_toArray HO.out
  refine bodyPost_ret (v := .tuple #[.agg YC.toArray, .int .u8 0, .int .u64 0]) (results_ctt Tryd.results18 _ _ (w.heap.size + 1) YC _ rfl F.out.2 Tryd.underlying26 rfl I2.out) rfl F.out.1
set_option maxRecDepth 8000 in
set_option maxHeartbeats 8000000 in
theorem rs_li {B mb : Nat} {pv : Nat → Value} {M : Me} {w : World} (x : Se) (hx : x.Ok) (h8 : x.Ok8) (s : Mm B mb pv M w) (time me : Int) (hst : x.st = 0) (hln : lineL x = -1) (v : Nat) (hv : v < 2 ^ 32) (hld : loadL M (x.r.getD 17 0) (x.r.getD 16 0) 4 = some v) (a b : Nat) (n : Int) (ha : a < 16) (hb16 : b < 16) (hn : -32768 ≤ n ∧ n ≤ 32767) (hr : rightB ((1 : Nat) : Int) a b ((0 : Nat) : Int) n = true) (hw : wordF 1 a b 0 n = v) (qc : (v : Int) / 67108864 = 1) (qa : (v : Int) / 4194304 % 16 = a) (qb : (v : Int) / 262144 % 16 = b) (qn : IntKind.i16.wrap ((v : Int) % 65536) = n) :
    Calls Tryd.prog 18 #[.agg x.cells.toArray, .pointer (some ⟨mb, 0, none⟩), .int .u64 time, .int .i64 me] w (RStepP B mb pv ⟨(x.reg a (kN n)).reg 16 (nxN x), M, 0, 0⟩ w) := by
  have R := Lib.hid (Rs.new (x := x) s)
  have LC := Lib.hid (fun W => refLine_calls x hx h8 W)
  rw [hln] at LC
  have GC := Lib.hid (fun W (h : Mm B mb pv M W) => refGet_calls x hx h (x.r.getD 16 0) 4 (getD_lt hx 16) (.inl rfl))
  rw [hld] at GC
  simp only [loadE] at GC
  have hz := zero_val
  have HZL := Lib.hid zero_ok.len
  have HX := Lib.hid hx
  have I0 := Lib.hid (info_se hx)
  have I26 := Lib.hid size26
  have XL := Lib.hid hx.len
  have ZL := Lib.hid (fun (a : Nat) (ha : a < 26) => ha)
  have G16 := Lib.hid (hx.gr (i := 16) (by decide))
  have G23 := Lib.hid hx.g23
  rw [hst] at G23
  have FC : Hid (∀ W, Calls Tryd.prog 12 #[.int .u8 1] W fun e w' => e = .returned (.int .i64 9) ∧ Below W.heap.size W w') := fun W => refFields_calls 1 (by decide) W
  have RR : Hid (∀ W, Calls Tryd.prog 27 #[.int .u8 1, .int .u8 (a : Int), .int .u8 (b : Int), .int .u8 0, .int .i16 n] W fun e w' => e = .returned (.bool true) ∧ Below W.heap.size W w') := fun W => hr ▸ refRight_calls 1 a b 0 n W
  have RW : Hid (∀ W, Calls Tryd.prog 13 #[.int .u8 1, .int .u8 (a : Int), .int .u8 (b : Int), .int .u8 0, .int .i16 n] W fun e w' => e = .returned (.int .u32 (v : Int)) ∧ Below W.heap.size W w') := fun W => hw ▸ refWord_calls 1 a b 0 n (by decide) ha hb16 (by decide) W
  clear hr hw
  have HA := Lib.hid ha
  have HB := Lib.hid hb16
  have hwk := kN_wrap n
  have KL := Lib.hid (kN_lt n)
  have hwx := nx_wrap x
  have NL := Lib.hid (nx_lt x)
  have GA := Lib.hid (hx.gr (i := a) (by omega))
  have GB := Lib.hid (hx.gr (i := b) (by omega))
  have GD := Lib.hid (hx.gr (i := 0) (by omega))
  have HVA := Lib.hid (getD_lt hx a)
  have HVB := Lib.hid (getD_lt hx b)
  have HVD := Lib.hid (getD_lt hx 0)
  have hai : (a : Int) ≤ 15 := by omega
  have hbi : (b : Int) ≤ 15 := by omega
  have hai0 : 0 ≤ (a : Int) := by omega
  have hbi0 : 0 ≤ (b : Int) := by omega
  have hai1 : (a : Int) < 16 := by omega
  have hbi1 : (b : Int) < 16 := by omega
  have hai2 : ¬ (a : Int) < 0 := by omega
  have hbi2 : ¬ (b : Int) < 0 := by omega
  generalize kN n = kk at *
  generalize nxN x = nx at *
  generalize x.r.getD a 0 = va at *
  generalize x.r.getD b 0 = vb at *
  generalize x.r.getD 0 0 = vd at *
  clear hln hld s hx h8 hst
  generalize x.r.getD 16 0 = pc at *
  generalize hZC : zeroSe.cells = ZC at *
  have hZC := Lib.hid hZC
  have hzs : ZC.toArray.size = 26 := by simpa using HZL.out
  have hzn : ¬ ZC.toArray = #[] := fun h => by rw [h] at hzs; simp at hzs
  generalize hXC : x.cells = XC at *
  have hXC := Lib.hid hXC
  go_enter Tryd.func18, Tryd.ntmps18
  go_upto_region 1 with (fail)
  generalize hw1 : (w.alloc (.cells _ 26)).alloc _ = w1 at *
  clear hw1 hzs hzn hz
  have c23 := R.out.s.cellAt (hXC.out ▸ G23.out)
  go_upto_region 4 with (first
    | (refine wpList_load_mid rfl 26 (.tmp 4) rfl w.heap.size 0 rfl XC _ (hXC.out ▸ range_all R.out.s) Tryd.underlying26 rfl I0.out ?_)
    | (go_at_call 17; refine (LC.out _).mono ?_; rintro e w2 ⟨rfl, b2⟩; have R2 := Lib.hid (R.out.step b2); clear b2))
  clear R LC c23
  have c16 := R2.out.s.cellAt (hXC.out ▸ G16.out)
  go_upto_region 8 with (first
    | (refine wpList_load_mid rfl 26 (.tmp 4) rfl w.heap.size 0 rfl XC _ (hXC.out ▸ range_all R2.out.s) Tryd.underlying26 rfl I0.out ?_)
    | (go_at_call 26; refine (GC.out _ R2.out.m).mono ?_; rintro e w3 ⟨rfl, b3⟩; have R3 := Lib.hid (R2.out.step b3); clear b3))
  clear R2 GC c16
  go_upto_region 18 with (go_at_call 12; refine (FC.out _).mono ?_; rintro e w4 ⟨rfl, b4⟩; have R4 := Lib.hid (R3.out.step b4); clear b4)
  clear FC R3
  go_upto_region 20 with (first
    | (go_at_call 27; refine (RR.out _).mono ?_; rintro e w5 ⟨rfl, b5⟩; have R5 := Lib.hid (R4.out.step b5); clear b5)
    | (go_at_call 13; refine (RW.out _).mono ?_; rintro e w6 ⟨rfl, b6⟩; have R6 := Lib.hid (R5.out.step b6); clear b6))
  clear R4 R5 RR RW
  have c16 := R6.out.s.cellAt (hXC.out ▸ G16.out)
  have cA := R6.out.s.cellAt (hXC.out ▸ GA.out)
  have cB := R6.out.s.cellAt (hXC.out ▸ GB.out)
  have cD := R6.out.s.cellAt (hXC.out ▸ GD.out)
  have fA := R6.out.s.unfrozen a
  have E1 := Lib.hid (R6.out.reg HX.out (a := a) (by have := HA.out; omega) kk)
  go_upto_region 103 with (fail)
  generalize World.setCell _ _ _ = w7 at *
  have OK1 := Lib.hid (show (x.reg a kk).Ok from HX.out.reg (a := a) KL.out)
  have t16 := E1.out.s.cellAt (OK1.out.gr (i := 16) (by decide))
  have tf := E1.out.s.unfrozen 16
  have E2 := Lib.hid (E1.out.reg OK1.out (a := 16) (by decide) nx)
  have OK2 := Lib.hid (OK1.out.reg (a := 16) (v := nx) NL.out)
  clear E1 OK1
  go_upto_region 104 with (fail)
  have F := Lib.hid (E2.out.fin OK2.out 0 0)
  have RA := Lib.hid (range_all E2.out.s)
  have RZ := Lib.hid E2.out.z
  rw [hZC.out] at RZ
  have I2 := Lib.hid (info_se OK2.out)
  have HO := Lib.hid (Se.one ((x.reg a kk).reg 16 nx))
  have YL := Lib.hid OK2.out.len
  generalize hw9 : World.setCell _ _ _ = w9 at *
  clear hw9
  clear E2
  generalize ((x.reg a kk).reg 16 nx).cells = YC at *
  go_wp2_with (first
    | (refine wpList_load_mid rfl 26 (.tmp 4) rfl w.heap.size 0 rfl YC _ RA.out Tryd.underlying26 rfl I2.out ?_)
    | (refine wpList_store_mid rfl 26 (.tmp 8) (.tmp 410) rfl (w.heap.size + 1) 0 YC.toArray rfl rfl (there_of_blk RZ.out ?s1) ?s2 ?s3 ?_))
  case s1 => have h1 := HZL.out; have h2 := YL.out; simp; omega
  case s2 => simpa using I2.out
  case s3 => first | exact HO.out | exact all_oneCell_toArray HO.out
  refine bodyPost_ret (v := .tuple #[.agg YC.toArray, .int .u8 0, .int .u64 0]) (results_ctt Tryd.results18 _ _ (w.heap.size + 1) YC _ rfl F.out.2 Tryd.underlying26 rfl I2.out) rfl F.out.1
set_option maxRecDepth 8000 in
set_option maxHeartbeats 8000000 in
theorem rs_lu {B mb : Nat} {pv : Nat → Value} {M : Me} {w : World} (x : Se) (hx : x.Ok) (h8 : x.Ok8) (s : Mm B mb pv M w) (time me : Int) (hst : x.st = 0) (hln : lineL x = -1) (v : Nat) (hv : v < 2 ^ 32) (hld : loadL M (x.r.getD 17 0) (x.r.getD 16 0) 4 = some v) (a b : Nat) (n : Int) (ha : a < 16) (hb16 : b < 16) (hn : -32768 ≤ n ∧ n ≤ 32767) (hr : rightB ((2 : Nat) : Int) a b ((0 : Nat) : Int) n = true) (hw : wordF 2 a b 0 n = v) (qc : (v : Int) / 67108864 = 2) (qa : (v : Int) / 4194304 % 16 = a) (qb : (v : Int) / 262144 % 16 = b) (qn : IntKind.i16.wrap ((v : Int) % 65536) = n) :
    Calls Tryd.prog 18 #[.agg x.cells.toArray, .pointer (some ⟨mb, 0, none⟩), .int .u64 time, .int .i64 me] w (RStepP B mb pv ⟨(x.reg a (wth (x.r.getD a 0) 16 48 (kN n))).reg 16 (nxN x), M, 0, 0⟩ w) := by
  have R := Lib.hid (Rs.new (x := x) s)
  have LC := Lib.hid (fun W => refLine_calls x hx h8 W)
  rw [hln] at LC
  have GC := Lib.hid (fun W (h : Mm B mb pv M W) => refGet_calls x hx h (x.r.getD 16 0) 4 (getD_lt hx 16) (.inl rfl))
  rw [hld] at GC
  simp only [loadE] at GC
  have hz := zero_val
  have HZL := Lib.hid zero_ok.len
  have HX := Lib.hid hx
  have I0 := Lib.hid (info_se hx)
  have I26 := Lib.hid size26
  have XL := Lib.hid hx.len
  have ZL := Lib.hid (fun (a : Nat) (ha : a < 26) => ha)
  have G16 := Lib.hid (hx.gr (i := 16) (by decide))
  have G23 := Lib.hid hx.g23
  rw [hst] at G23
  have FC : Hid (∀ W, Calls Tryd.prog 12 #[.int .u8 2] W fun e w' => e = .returned (.int .i64 9) ∧ Below W.heap.size W w') := fun W => refFields_calls 2 (by decide) W
  have RR : Hid (∀ W, Calls Tryd.prog 27 #[.int .u8 2, .int .u8 (a : Int), .int .u8 (b : Int), .int .u8 0, .int .i16 n] W fun e w' => e = .returned (.bool true) ∧ Below W.heap.size W w') := fun W => hr ▸ refRight_calls 2 a b 0 n W
  have RW : Hid (∀ W, Calls Tryd.prog 13 #[.int .u8 2, .int .u8 (a : Int), .int .u8 (b : Int), .int .u8 0, .int .i16 n] W fun e w' => e = .returned (.int .u32 (v : Int)) ∧ Below W.heap.size W w') := fun W => hw ▸ refWord_calls 2 a b 0 n (by decide) ha hb16 (by decide) W
  clear hr hw
  have HA := Lib.hid ha
  have HB := Lib.hid hb16
  have hwk := kN_wrap n
  have KL := Lib.hid (kN_lt n)
  have hwx := nx_wrap x
  have NL := Lib.hid (nx_lt x)
  have GA := Lib.hid (hx.gr (i := a) (by omega))
  have GB := Lib.hid (hx.gr (i := b) (by omega))
  have GD := Lib.hid (hx.gr (i := 0) (by omega))
  have HVA := Lib.hid (getD_lt hx a)
  have HVB := Lib.hid (getD_lt hx b)
  have HVD := Lib.hid (getD_lt hx 0)
  have hai : (a : Int) ≤ 15 := by omega
  have hbi : (b : Int) ≤ 15 := by omega
  have hai0 : 0 ≤ (a : Int) := by omega
  have hbi0 : 0 ≤ (b : Int) := by omega
  have hai1 : (a : Int) < 16 := by omega
  have hbi1 : (b : Int) < 16 := by omega
  have hai2 : ¬ (a : Int) < 0 := by omega
  have hbi2 : ¬ (b : Int) < 0 := by omega
  have hlu := lu_wrap (kk := kN n) (getD_lt hx a)
  have WL := Lib.hid (wth_lt (getD_lt hx a) 16 48 (kN n))
  generalize wth (x.r.getD a 0) 16 48 (kN n) = wv at *
  generalize kN n = kk at *
  generalize nxN x = nx at *
  generalize x.r.getD a 0 = va at *
  generalize x.r.getD b 0 = vb at *
  generalize x.r.getD 0 0 = vd at *
  clear hln hld s hx h8 hst
  generalize x.r.getD 16 0 = pc at *
  generalize hZC : zeroSe.cells = ZC at *
  have hZC := Lib.hid hZC
  have hzs : ZC.toArray.size = 26 := by simpa using HZL.out
  have hzn : ¬ ZC.toArray = #[] := fun h => by rw [h] at hzs; simp at hzs
  generalize hXC : x.cells = XC at *
  have hXC := Lib.hid hXC
  go_enter Tryd.func18, Tryd.ntmps18
  go_upto_region 1 with (fail)
  generalize hw1 : (w.alloc (.cells _ 26)).alloc _ = w1 at *
  clear hw1 hzs hzn hz
  have c23 := R.out.s.cellAt (hXC.out ▸ G23.out)
  go_upto_region 4 with (first
    | (refine wpList_load_mid rfl 26 (.tmp 4) rfl w.heap.size 0 rfl XC _ (hXC.out ▸ range_all R.out.s) Tryd.underlying26 rfl I0.out ?_)
    | (go_at_call 17; refine (LC.out _).mono ?_; rintro e w2 ⟨rfl, b2⟩; have R2 := Lib.hid (R.out.step b2); clear b2))
  clear R LC c23
  have c16 := R2.out.s.cellAt (hXC.out ▸ G16.out)
  go_upto_region 8 with (first
    | (refine wpList_load_mid rfl 26 (.tmp 4) rfl w.heap.size 0 rfl XC _ (hXC.out ▸ range_all R2.out.s) Tryd.underlying26 rfl I0.out ?_)
    | (go_at_call 26; refine (GC.out _ R2.out.m).mono ?_; rintro e w3 ⟨rfl, b3⟩; have R3 := Lib.hid (R2.out.step b3); clear b3))
  clear R2 GC c16
  go_upto_region 18 with (go_at_call 12; refine (FC.out _).mono ?_; rintro e w4 ⟨rfl, b4⟩; have R4 := Lib.hid (R3.out.step b4); clear b4)
  clear FC R3
  go_upto_region 20 with (first
    | (go_at_call 27; refine (RR.out _).mono ?_; rintro e w5 ⟨rfl, b5⟩; have R5 := Lib.hid (R4.out.step b5); clear b5)
    | (go_at_call 13; refine (RW.out _).mono ?_; rintro e w6 ⟨rfl, b6⟩; have R6 := Lib.hid (R5.out.step b6); clear b6))
  clear R4 R5 RR RW
  have c16 := R6.out.s.cellAt (hXC.out ▸ G16.out)
  have cA := R6.out.s.cellAt (hXC.out ▸ GA.out)
  have cB := R6.out.s.cellAt (hXC.out ▸ GB.out)
  have cD := R6.out.s.cellAt (hXC.out ▸ GD.out)
  have fA := R6.out.s.unfrozen a
  have E1 := Lib.hid (R6.out.reg HX.out (a := a) (by have := HA.out; omega) wv)
  go_upto_region 103 with (fail)
  generalize World.setCell _ _ _ = w7 at *
  have OK1 := Lib.hid (show (x.reg a wv).Ok from HX.out.reg (a := a) WL.out)
  have t16 := E1.out.s.cellAt (OK1.out.gr (i := 16) (by decide))
  have tf := E1.out.s.unfrozen 16
  have E2 := Lib.hid (E1.out.reg OK1.out (a := 16) (by decide) nx)
  have OK2 := Lib.hid (OK1.out.reg (a := 16) (v := nx) NL.out)
  clear E1 OK1
  go_upto_region 104 with (fail)
  have F := Lib.hid (E2.out.fin OK2.out 0 0)
  have RA := Lib.hid (range_all E2.out.s)
  have RZ := Lib.hid E2.out.z
  rw [hZC.out] at RZ
  have I2 := Lib.hid (info_se OK2.out)
  have HO := Lib.hid (Se.one ((x.reg a wv).reg 16 nx))
  have YL := Lib.hid OK2.out.len
  generalize hw9 : World.setCell _ _ _ = w9 at *
  clear hw9
  clear E2
  generalize ((x.reg a wv).reg 16 nx).cells = YC at *
  go_wp2_with (first
    | (refine wpList_load_mid rfl 26 (.tmp 4) rfl w.heap.size 0 rfl YC _ RA.out Tryd.underlying26 rfl I2.out ?_)
    | (refine wpList_store_mid rfl 26 (.tmp 8) (.tmp 410) rfl (w.heap.size + 1) 0 YC.toArray rfl rfl (there_of_blk RZ.out ?s1) ?s2 ?s3 ?_))
  case s1 => have h1 := HZL.out; have h2 := YL.out; simp; omega
  case s2 => simpa using I2.out
  case s3 => first | exact HO.out | exact all_oneCell_toArray HO.out
  refine bodyPost_ret (v := .tuple #[.agg YC.toArray, .int .u8 0, .int .u64 0]) (results_ctt Tryd.results18 _ _ (w.heap.size + 1) YC _ rfl F.out.2 Tryd.underlying26 rfl I2.out) rfl F.out.1
set_option maxRecDepth 8000 in
set_option maxHeartbeats 8000000 in
theorem rs_sum3 {B mb : Nat} {pv : Nat → Value} {M : Me} {w : World} (x : Se) (hx : x.Ok) (h8 : x.Ok8) (s : Mm B mb pv M w) (time me : Int) (hst : x.st = 0) (hln : lineL x = -1) (v : Nat) (hv : v < 2 ^ 32) (hld : loadL M (x.r.getD 17 0) (x.r.getD 16 0) 4 = some v) (a b d : Nat) (ha : a < 16) (hb16 : b < 16) (hd : d < 16) (hr : rightB ((3 : Nat) : Int) a b ((d : Nat) : Int) 0 = true) (hw : wordF 3 a b d 0 = v) (qc : (v : Int) / 67108864 = 3) (qa : (v : Int) / 4194304 % 16 = a) (qb : (v : Int) / 262144 % 16 = b) (qd : (v : Int) % 16 = d) :
    Calls Tryd.prog 18 #[.agg x.cells.toArray, .pointer (some ⟨mb, 0, none⟩), .int .u64 time, .int .i64 me] w (RStepP B mb pv ⟨(x.reg a (sumN 3 (x.r.getD b 0) (x.r.getD d 0))).reg 16 (nxN x), M, 0, 0⟩ w) := by
  have R := Lib.hid (Rs.new (x := x) s)
  have LC := Lib.hid (fun W => refLine_calls x hx h8 W)
  rw [hln] at LC
  have GC := Lib.hid (fun W (h : Mm B mb pv M W) => refGet_calls x hx h (x.r.getD 16 0) 4 (getD_lt hx 16) (.inl rfl))
  rw [hld] at GC
  simp only [loadE] at GC
  have hz := zero_val
  have HZL := Lib.hid zero_ok.len
  have HX := Lib.hid hx
  have I0 := Lib.hid (info_se hx)
  have I26 := Lib.hid size26
  have XL := Lib.hid hx.len
  have ZL := Lib.hid (fun (a : Nat) (ha : a < 26) => ha)
  have G16 := Lib.hid (hx.gr (i := 16) (by decide))
  have G23 := Lib.hid hx.g23
  rw [hst] at G23
  have FC : Hid (∀ W, Calls Tryd.prog 12 #[.int .u8 3] W fun e w' => e = .returned (.int .i64 7) ∧ Below W.heap.size W w') := fun W => refFields_calls 3 (by decide) W
  have RR : Hid (∀ W, Calls Tryd.prog 27 #[.int .u8 3, .int .u8 (a : Int), .int .u8 (b : Int), .int .u8 (d : Int), .int .i16 0] W fun e w' => e = .returned (.bool true) ∧ Below W.heap.size W w') := fun W => hr ▸ refRight_calls 3 a b d 0 W
  have RW : Hid (∀ W, Calls Tryd.prog 13 #[.int .u8 3, .int .u8 (a : Int), .int .u8 (b : Int), .int .u8 (d : Int), .int .i16 0] W fun e w' => e = .returned (.int .u32 (v : Int)) ∧ Below W.heap.size W w') := fun W => hw ▸ refWord_calls 3 a b d 0 (by decide) ha hb16 hd W
  clear hr hw
  have HA := Lib.hid ha
  have HB := Lib.hid hb16
  have hwx := nx_wrap x
  have NL := Lib.hid (nx_lt x)
  have GA := Lib.hid (hx.gr (i := a) (by omega))
  have GB := Lib.hid (hx.gr (i := b) (by omega))
  have GD := Lib.hid (hx.gr (i := d) (by omega))
  have HVA := Lib.hid (getD_lt hx a)
  have HVB := Lib.hid (getD_lt hx b)
  have HVD := Lib.hid (getD_lt hx d)
  have hai : (a : Int) ≤ 15 := by omega
  have hbi : (b : Int) ≤ 15 := by omega
  have hai0 : 0 ≤ (a : Int) := by omega
  have hbi0 : 0 ≤ (b : Int) := by omega
  have hai1 : (a : Int) < 16 := by omega
  have hbi1 : (b : Int) < 16 := by omega
  have hai2 : ¬ (a : Int) < 0 := by omega
  have hbi2 : ¬ (b : Int) < 0 := by omega
  have hdi1 : (d : Int) < 16 := by omega
  have hdi2 : ¬ (d : Int) < 0 := by omega
  have hdi : (d : Int) ≤ 15 := by omega
  have hdi0 : 0 ≤ (d : Int) := by omega
  have hsum := sumN_eq 3 (x.r.getD b 0) (x.r.getD d 0) (by decide) (getD_lt hx b) (getD_lt hx d)
  dsimp only [sumI] at hsum
  have SL := Lib.hid (sumN_lt 3 (x.r.getD b 0) (x.r.getD d 0))
  generalize sumN 3 (x.r.getD b 0) (x.r.getD d 0) = sm at *
  generalize nxN x = nx at *
  generalize x.r.getD a 0 = va at *
  generalize x.r.getD b 0 = vb at *
  generalize x.r.getD d 0 = vd at *
  clear hln hld s hx h8 hst
  generalize x.r.getD 16 0 = pc at *
  generalize hZC : zeroSe.cells = ZC at *
  have hZC := Lib.hid hZC
  have hzs : ZC.toArray.size = 26 := by simpa using HZL.out
  have hzn : ¬ ZC.toArray = #[] := fun h => by rw [h] at hzs; simp at hzs
  generalize hXC : x.cells = XC at *
  have hXC := Lib.hid hXC
  go_enter Tryd.func18, Tryd.ntmps18
  go_upto_region 1 with (fail)
  generalize hw1 : (w.alloc (.cells _ 26)).alloc _ = w1 at *
  clear hw1 hzs hzn hz
  have c23 := R.out.s.cellAt (hXC.out ▸ G23.out)
  go_upto_region 4 with (first
    | (refine wpList_load_mid rfl 26 (.tmp 4) rfl w.heap.size 0 rfl XC _ (hXC.out ▸ range_all R.out.s) Tryd.underlying26 rfl I0.out ?_)
    | (go_at_call 17; refine (LC.out _).mono ?_; rintro e w2 ⟨rfl, b2⟩; have R2 := Lib.hid (R.out.step b2); clear b2))
  clear R LC c23
  have c16 := R2.out.s.cellAt (hXC.out ▸ G16.out)
  go_upto_region 8 with (first
    | (refine wpList_load_mid rfl 26 (.tmp 4) rfl w.heap.size 0 rfl XC _ (hXC.out ▸ range_all R2.out.s) Tryd.underlying26 rfl I0.out ?_)
    | (go_at_call 26; refine (GC.out _ R2.out.m).mono ?_; rintro e w3 ⟨rfl, b3⟩; have R3 := Lib.hid (R2.out.step b3); clear b3))
  clear R2 GC c16
  go_upto_region 18 with (go_at_call 12; refine (FC.out _).mono ?_; rintro e w4 ⟨rfl, b4⟩; have R4 := Lib.hid (R3.out.step b4); clear b4)
  clear FC R3
  go_upto_region 20 with (first
    | (go_at_call 27; refine (RR.out _).mono ?_; rintro e w5 ⟨rfl, b5⟩; have R5 := Lib.hid (R4.out.step b5); clear b5)
    | (go_at_call 13; refine (RW.out _).mono ?_; rintro e w6 ⟨rfl, b6⟩; have R6 := Lib.hid (R5.out.step b6); clear b6))
  clear R4 R5 RR RW
  have c16 := R6.out.s.cellAt (hXC.out ▸ G16.out)
  have cA := R6.out.s.cellAt (hXC.out ▸ GA.out)
  have cB := R6.out.s.cellAt (hXC.out ▸ GB.out)
  have cD := R6.out.s.cellAt (hXC.out ▸ GD.out)
  have fA := R6.out.s.unfrozen a
  have E1 := Lib.hid (R6.out.reg HX.out (a := a) (by have := HA.out; omega) sm)
  go_upto_region 103 with (fail)
  generalize World.setCell _ _ _ = w7 at *
  have OK1 := Lib.hid (show (x.reg a sm).Ok from HX.out.reg (a := a) SL.out)
  have t16 := E1.out.s.cellAt (OK1.out.gr (i := 16) (by decide))
  have tf := E1.out.s.unfrozen 16
  have E2 := Lib.hid (E1.out.reg OK1.out (a := 16) (by decide) nx)
  have OK2 := Lib.hid (OK1.out.reg (a := 16) (v := nx) NL.out)
  clear E1 OK1
  go_upto_region 104 with (fail)
  have F := Lib.hid (E2.out.fin OK2.out 0 0)
  have RA := Lib.hid (range_all E2.out.s)
  have RZ := Lib.hid E2.out.z
  rw [hZC.out] at RZ
  have I2 := Lib.hid (info_se OK2.out)
  have HO := Lib.hid (Se.one ((x.reg a sm).reg 16 nx))
  have YL := Lib.hid OK2.out.len
  generalize hw9 : World.setCell _ _ _ = w9 at *
  clear hw9
  clear E2
  generalize ((x.reg a sm).reg 16 nx).cells = YC at *
  go_wp2_with (first
    | (refine wpList_load_mid rfl 26 (.tmp 4) rfl w.heap.size 0 rfl YC _ RA.out Tryd.underlying26 rfl I2.out ?_)
    | (refine wpList_store_mid rfl 26 (.tmp 8) (.tmp 410) rfl (w.heap.size + 1) 0 YC.toArray rfl rfl (there_of_blk RZ.out ?s1) ?s2 ?s3 ?_))
  case s1 => have h1 := HZL.out; have h2 := YL.out; simp; omega
  case s2 => simpa using I2.out
  case s3 => first | exact HO.out | exact all_oneCell_toArray HO.out
  refine bodyPost_ret (v := .tuple #[.agg YC.toArray, .int .u8 0, .int .u64 0]) (results_ctt Tryd.results18 _ _ (w.heap.size + 1) YC _ rfl F.out.2 Tryd.underlying26 rfl I2.out) rfl F.out.1
set_option maxRecDepth 8000 in
set_option maxHeartbeats 8000000 in
theorem rs_sum4 {B mb : Nat} {pv : Nat → Value} {M : Me} {w : World} (x : Se) (hx : x.Ok) (h8 : x.Ok8) (s : Mm B mb pv M w) (time me : Int) (hst : x.st = 0) (hln : lineL x = -1) (v : Nat) (hv : v < 2 ^ 32) (hld : loadL M (x.r.getD 17 0) (x.r.getD 16 0) 4 = some v) (a b d : Nat) (ha : a < 16) (hb16 : b < 16) (hd : d < 16) (hr : rightB ((4 : Nat) : Int) a b ((d : Nat) : Int) 0 = true) (hw : wordF 4 a b d 0 = v) (qc : (v : Int) / 67108864 = 4) (qa : (v : Int) / 4194304 % 16 = a) (qb : (v : Int) / 262144 % 16 = b) (qd : (v : Int) % 16 = d) :
    Calls Tryd.prog 18 #[.agg x.cells.toArray, .pointer (some ⟨mb, 0, none⟩), .int .u64 time, .int .i64 me] w (RStepP B mb pv ⟨(x.reg a (sumN 4 (x.r.getD b 0) (x.r.getD d 0))).reg 16 (nxN x), M, 0, 0⟩ w) := by
  have R := Lib.hid (Rs.new (x := x) s)
  have LC := Lib.hid (fun W => refLine_calls x hx h8 W)
  rw [hln] at LC
  have GC := Lib.hid (fun W (h : Mm B mb pv M W) => refGet_calls x hx h (x.r.getD 16 0) 4 (getD_lt hx 16) (.inl rfl))
  rw [hld] at GC
  simp only [loadE] at GC
  have hz := zero_val
  have HZL := Lib.hid zero_ok.len
  have HX := Lib.hid hx
  have I0 := Lib.hid (info_se hx)
  have I26 := Lib.hid size26
  have XL := Lib.hid hx.len
  have ZL := Lib.hid (fun (a : Nat) (ha : a < 26) => ha)
  have G16 := Lib.hid (hx.gr (i := 16) (by decide))
  have G23 := Lib.hid hx.g23
  rw [hst] at G23
  have FC : Hid (∀ W, Calls Tryd.prog 12 #[.int .u8 4] W fun e w' => e = .returned (.int .i64 7) ∧ Below W.heap.size W w') := fun W => refFields_calls 4 (by decide) W
  have RR : Hid (∀ W, Calls Tryd.prog 27 #[.int .u8 4, .int .u8 (a : Int), .int .u8 (b : Int), .int .u8 (d : Int), .int .i16 0] W fun e w' => e = .returned (.bool true) ∧ Below W.heap.size W w') := fun W => hr ▸ refRight_calls 4 a b d 0 W
  have RW : Hid (∀ W, Calls Tryd.prog 13 #[.int .u8 4, .int .u8 (a : Int), .int .u8 (b : Int), .int .u8 (d : Int), .int .i16 0] W fun e w' => e = .returned (.int .u32 (v : Int)) ∧ Below W.heap.size W w') := fun W => hw ▸ refWord_calls 4 a b d 0 (by decide) ha hb16 hd W
  clear hr hw
  have HA := Lib.hid ha
  have HB := Lib.hid hb16
  have hwx := nx_wrap x
  have NL := Lib.hid (nx_lt x)
  have GA := Lib.hid (hx.gr (i := a) (by omega))
  have GB := Lib.hid (hx.gr (i := b) (by omega))
  have GD := Lib.hid (hx.gr (i := d) (by omega))
  have HVA := Lib.hid (getD_lt hx a)
  have HVB := Lib.hid (getD_lt hx b)
  have HVD := Lib.hid (getD_lt hx d)
  have hai : (a : Int) ≤ 15 := by omega
  have hbi : (b : Int) ≤ 15 := by omega
  have hai0 : 0 ≤ (a : Int) := by omega
  have hbi0 : 0 ≤ (b : Int) := by omega
  have hai1 : (a : Int) < 16 := by omega
  have hbi1 : (b : Int) < 16 := by omega
  have hai2 : ¬ (a : Int) < 0 := by omega
  have hbi2 : ¬ (b : Int) < 0 := by omega
  have hdi1 : (d : Int) < 16 := by omega
  have hdi2 : ¬ (d : Int) < 0 := by omega
  have hdi : (d : Int) ≤ 15 := by omega
  have hdi0 : 0 ≤ (d : Int) := by omega
  have hsum := sumN_eq 4 (x.r.getD b 0) (x.r.getD d 0) (by decide) (getD_lt hx b) (getD_lt hx d)
  dsimp only [sumI] at hsum
  have SL := Lib.hid (sumN_lt 4 (x.r.getD b 0) (x.r.getD d 0))
  generalize sumN 4 (x.r.getD b 0) (x.r.getD d 0) = sm at *
  generalize nxN x = nx at *
  generalize x.r.getD a 0 = va at *
  generalize x.r.getD b 0 = vb at *
  generalize x.r.getD d 0 = vd at *
  clear hln hld s hx h8 hst
  generalize x.r.getD 16 0 = pc at *
  generalize hZC : zeroSe.cells = ZC at *
  have hZC := Lib.hid hZC
  have hzs : ZC.toArray.size = 26 := by simpa using HZL.out
  have hzn : ¬ ZC.toArray = #[] := fun h => by rw [h] at hzs; simp at hzs
  generalize hXC : x.cells = XC at *
  have hXC := Lib.hid hXC
  go_enter Tryd.func18, Tryd.ntmps18
  go_upto_region 1 with (fail)
  generalize hw1 : (w.alloc (.cells _ 26)).alloc _ = w1 at *
  clear hw1 hzs hzn hz
  have c23 := R.out.s.cellAt (hXC.out ▸ G23.out)
  go_upto_region 4 with (first
    | (refine wpList_load_mid rfl 26 (.tmp 4) rfl w.heap.size 0 rfl XC _ (hXC.out ▸ range_all R.out.s) Tryd.underlying26 rfl I0.out ?_)
    | (go_at_call 17; refine (LC.out _).mono ?_; rintro e w2 ⟨rfl, b2⟩; have R2 := Lib.hid (R.out.step b2); clear b2))
  clear R LC c23
  have c16 := R2.out.s.cellAt (hXC.out ▸ G16.out)
  go_upto_region 8 with (first
    | (refine wpList_load_mid rfl 26 (.tmp 4) rfl w.heap.size 0 rfl XC _ (hXC.out ▸ range_all R2.out.s) Tryd.underlying26 rfl I0.out ?_)
    | (go_at_call 26; refine (GC.out _ R2.out.m).mono ?_; rintro e w3 ⟨rfl, b3⟩; have R3 := Lib.hid (R2.out.step b3); clear b3))
  clear R2 GC c16
  go_upto_region 18 with (go_at_call 12; refine (FC.out _).mono ?_; rintro e w4 ⟨rfl, b4⟩; have R4 := Lib.hid (R3.out.step b4); clear b4)
  clear FC R3
  go_upto_region 20 with (first
    | (go_at_call 27; refine (RR.out _).mono ?_; rintro e w5 ⟨rfl, b5⟩; have R5 := Lib.hid (R4.out.step b5); clear b5)
    | (go_at_call 13; refine (RW.out _).mono ?_; rintro e w6 ⟨rfl, b6⟩; have R6 := Lib.hid (R5.out.step b6); clear b6))
  clear R4 R5 RR RW
  have c16 := R6.out.s.cellAt (hXC.out ▸ G16.out)
  have cA := R6.out.s.cellAt (hXC.out ▸ GA.out)
  have cB := R6.out.s.cellAt (hXC.out ▸ GB.out)
  have cD := R6.out.s.cellAt (hXC.out ▸ GD.out)
  have fA := R6.out.s.unfrozen a
  have E1 := Lib.hid (R6.out.reg HX.out (a := a) (by have := HA.out; omega) sm)
  go_upto_region 103 with (fail)
  generalize World.setCell _ _ _ = w7 at *
  have OK1 := Lib.hid (show (x.reg a sm).Ok from HX.out.reg (a := a) SL.out)
  have t16 := E1.out.s.cellAt (OK1.out.gr (i := 16) (by decide))
  have tf := E1.out.s.unfrozen 16
  have E2 := Lib.hid (E1.out.reg OK1.out (a := 16) (by decide) nx)
  have OK2 := Lib.hid (OK1.out.reg (a := 16) (v := nx) NL.out)
  clear E1 OK1
  go_upto_region 104 with (fail)
  have F := Lib.hid (E2.out.fin OK2.out 0 0)
  have RA := Lib.hid (range_all E2.out.s)
  have RZ := Lib.hid E2.out.z
  rw [hZC.out] at RZ
  have I2 := Lib.hid (info_se OK2.out)
  have HO := Lib.hid (Se.one ((x.reg a sm).reg 16 nx))
  have YL := Lib.hid OK2.out.len
  generalize hw9 : World.setCell _ _ _ = w9 at *
  clear hw9
  clear E2
  generalize ((x.reg a sm).reg 16 nx).cells = YC at *
  go_wp2_with (first
    | (refine wpList_load_mid rfl 26 (.tmp 4) rfl w.heap.size 0 rfl YC _ RA.out Tryd.underlying26 rfl I2.out ?_)
    | (refine wpList_store_mid rfl 26 (.tmp 8) (.tmp 410) rfl (w.heap.size + 1) 0 YC.toArray rfl rfl (there_of_blk RZ.out ?s1) ?s2 ?s3 ?_))
  case s1 => have h1 := HZL.out; have h2 := YL.out; simp; omega
  case s2 => simpa using I2.out
  case s3 => first | exact HO.out | exact all_oneCell_toArray HO.out
  refine bodyPost_ret (v := .tuple #[.agg YC.toArray, .int .u8 0, .int .u64 0]) (results_ctt Tryd.results18 _ _ (w.heap.size + 1) YC _ rfl F.out.2 Tryd.underlying26 rfl I2.out) rfl F.out.1
set_option maxRecDepth 8000 in
set_option maxHeartbeats 8000000 in
theorem rs_sum5 {B mb : Nat} {pv : Nat → Value} {M : Me} {w : World} (x : Se) (hx : x.Ok) (h8 : x.Ok8) (s : Mm B mb pv M w) (time me : Int) (hst : x.st = 0) (hln : lineL x = -1) (v : Nat) (hv : v < 2 ^ 32) (hld : loadL M (x.r.getD 17 0) (x.r.getD 16 0) 4 = some v) (a b d : Nat) (ha : a < 16) (hb16 : b < 16) (hd : d < 16) (hr : rightB ((5 : Nat) : Int) a b ((d : Nat) : Int) 0 = true) (hw : wordF 5 a b d 0 = v) (qc : (v : Int) / 67108864 = 5) (qa : (v : Int) / 4194304 % 16 = a) (qb : (v : Int) / 262144 % 16 = b) (qd : (v : Int) % 16 = d) :
    Calls Tryd.prog 18 #[.agg x.cells.toArray, .pointer (some ⟨mb, 0, none⟩), .int .u64 time, .int .i64 me] w (RStepP B mb pv ⟨(x.reg a (sumN 5 (x.r.getD b 0) (x.r.getD d 0))).reg 16 (nxN x), M, 0, 0⟩ w) := by
  have R := Lib.hid (Rs.new (x := x) s)
  have LC := Lib.hid (fun W => refLine_calls x hx h8 W)
  rw [hln] at LC
  have GC := Lib.hid (fun W (h : Mm B mb pv M W) => refGet_calls x hx h (x.r.getD 16 0) 4 (getD_lt hx 16) (.inl rfl))
  rw [hld] at GC
  simp only [loadE] at GC
  have hz := zero_val
  have HZL := Lib.hid zero_ok.len
  have HX := Lib.hid hx
  have I0 := Lib.hid (info_se hx)
  have I26 := Lib.hid size26
  have XL := Lib.hid hx.len
  have ZL := Lib.hid (fun (a : Nat) (ha : a < 26) => ha)
  have G16 := Lib.hid (hx.gr (i := 16) (by decide))
  have G23 := Lib.hid hx.g23
  rw [hst] at G23
  have FC : Hid (∀ W, Calls Tryd.prog 12 #[.int .u8 5] W fun e w' => e = .returned (.int .i64 7) ∧ Below W.heap.size W w') := fun W => refFields_calls 5 (by decide) W
  have RR : Hid (∀ W, Calls Tryd.prog 27 #[.int .u8 5, .int .u8 (a : Int), .int .u8 (b : Int), .int .u8 (d : Int), .int .i16 0] W fun e w' => e = .returned (.bool true) ∧ Below W.heap.size W w') := fun W => hr ▸ refRight_calls 5 a b d 0 W
  have RW : Hid (∀ W, Calls Tryd.prog 13 #[.int .u8 5, .int .u8 (a : Int), .int .u8 (b : Int), .int .u8 (d : Int), .int .i16 0] W fun e w' => e = .returned (.int .u32 (v : Int)) ∧ Below W.heap.size W w') := fun W => hw ▸ refWord_calls 5 a b d 0 (by decide) ha hb16 hd W
  clear hr hw
  have HA := Lib.hid ha
  have HB := Lib.hid hb16
  have hwx := nx_wrap x
  have NL := Lib.hid (nx_lt x)
  have GA := Lib.hid (hx.gr (i := a) (by omega))
  have GB := Lib.hid (hx.gr (i := b) (by omega))
  have GD := Lib.hid (hx.gr (i := d) (by omega))
  have HVA := Lib.hid (getD_lt hx a)
  have HVB := Lib.hid (getD_lt hx b)
  have HVD := Lib.hid (getD_lt hx d)
  have hai : (a : Int) ≤ 15 := by omega
  have hbi : (b : Int) ≤ 15 := by omega
  have hai0 : 0 ≤ (a : Int) := by omega
  have hbi0 : 0 ≤ (b : Int) := by omega
  have hai1 : (a : Int) < 16 := by omega
  have hbi1 : (b : Int) < 16 := by omega
  have hai2 : ¬ (a : Int) < 0 := by omega
  have hbi2 : ¬ (b : Int) < 0 := by omega
  have hdi1 : (d : Int) < 16 := by omega
  have hdi2 : ¬ (d : Int) < 0 := by omega
  have hdi : (d : Int) ≤ 15 := by omega
  have hdi0 : 0 ≤ (d : Int) := by omega
  have hsum := sumN_eq 5 (x.r.getD b 0) (x.r.getD d 0) (by decide) (getD_lt hx b) (getD_lt hx d)
  dsimp only [sumI] at hsum
  have SL := Lib.hid (sumN_lt 5 (x.r.getD b 0) (x.r.getD d 0))
  generalize sumN 5 (x.r.getD b 0) (x.r.getD d 0) = sm at *
  generalize nxN x = nx at *
  generalize x.r.getD a 0 = va at *
  generalize x.r.getD b 0 = vb at *
  generalize x.r.getD d 0 = vd at *
  clear hln hld s hx h8 hst
  generalize x.r.getD 16 0 = pc at *
  generalize hZC : zeroSe.cells = ZC at *
  have hZC := Lib.hid hZC
  have hzs : ZC.toArray.size = 26 := by simpa using HZL.out
  have hzn : ¬ ZC.toArray = #[] := fun h => by rw [h] at hzs; simp at hzs
  generalize hXC : x.cells = XC at *
  have hXC := Lib.hid hXC
  go_enter Tryd.func18, Tryd.ntmps18
  go_upto_region 1 with (fail)
  generalize hw1 : (w.alloc (.cells _ 26)).alloc _ = w1 at *
  clear hw1 hzs hzn hz
  have c23 := R.out.s.cellAt (hXC.out ▸ G23.out)
  go_upto_region 4 with (first
    | (refine wpList_load_mid rfl 26 (.tmp 4) rfl w.heap.size 0 rfl XC _ (hXC.out ▸ range_all R.out.s) Tryd.underlying26 rfl I0.out ?_)
    | (go_at_call 17; refine (LC.out _).mono ?_; rintro e w2 ⟨rfl, b2⟩; have R2 := Lib.hid (R.out.step b2); clear b2))
  clear R LC c23
  have c16 := R2.out.s.cellAt (hXC.out ▸ G16.out)
  go_upto_region 8 with (first
    | (refine wpList_load_mid rfl 26 (.tmp 4) rfl w.heap.size 0 rfl XC _ (hXC.out ▸ range_all R2.out.s) Tryd.underlying26 rfl I0.out ?_)
    | (go_at_call 26; refine (GC.out _ R2.out.m).mono ?_; rintro e w3 ⟨rfl, b3⟩; have R3 := Lib.hid (R2.out.step b3); clear b3))
  clear R2 GC c16
  go_upto_region 18 with (go_at_call 12; refine (FC.out _).mono ?_; rintro e w4 ⟨rfl, b4⟩; have R4 := Lib.hid (R3.out.step b4); clear b4)
  clear FC R3
  go_upto_region 20 with (first
    | (go_at_call 27; refine (RR.out _).mono ?_; rintro e w5 ⟨rfl, b5⟩; have R5 := Lib.hid (R4.out.step b5); clear b5)
    | (go_at_call 13; refine (RW.out _).mono ?_; rintro e w6 ⟨rfl, b6⟩; have R6 := Lib.hid (R5.out.step b6); clear b6))
  clear R4 R5 RR RW
  have c16 := R6.out.s.cellAt (hXC.out ▸ G16.out)
  have cA := R6.out.s.cellAt (hXC.out ▸ GA.out)
  have cB := R6.out.s.cellAt (hXC.out ▸ GB.out)
  have cD := R6.out.s.cellAt (hXC.out ▸ GD.out)
  have fA := R6.out.s.unfrozen a
  have E1 := Lib.hid (R6.out.reg HX.out (a := a) (by have := HA.out; omega) sm)
  go_upto_region 103 with (fail)
  generalize World.setCell _ _ _ = w7 at *
  have OK1 := Lib.hid (show (x.reg a sm).Ok from HX.out.reg (a := a) SL.out)
  have t16 := E1.out.s.cellAt (OK1.out.gr (i := 16) (by decide))
  have tf := E1.out.s.unfrozen 16
  have E2 := Lib.hid (E1.out.reg OK1.out (a := 16) (by decide) nx)
  have OK2 := Lib.hid (OK1.out.reg (a := 16) (v := nx) NL.out)
  clear E1 OK1
  go_upto_region 104 with (fail)
  have F := Lib.hid (E2.out.fin OK2.out 0 0)
  have RA := Lib.hid (range_all E2.out.s)
  have RZ := Lib.hid E2.out.z
  rw [hZC.out] at RZ
  have I2 := Lib.hid (info_se OK2.out)
  have HO := Lib.hid (Se.one ((x.reg a sm).reg 16 nx))
  have YL := Lib.hid OK2.out.len
  generalize hw9 : World.setCell _ _ _ = w9 at *
  clear hw9
  clear E2
  generalize ((x.reg a sm).reg 16 nx).cells = YC at *
  go_wp2_with (first
    | (refine wpList_load_mid rfl 26 (.tmp 4) rfl w.heap.size 0 rfl YC _ RA.out Tryd.underlying26 rfl I2.out ?_)
    | (refine wpList_store_mid rfl 26 (.tmp 8) (.tmp 410) rfl (w.heap.size + 1) 0 YC.toArray rfl rfl (there_of_blk RZ.out ?s1) ?s2 ?s3 ?_))
  case s1 => have h1 := HZL.out; have h2 := YL.out; simp; omega
  case s2 => simpa using I2.out
  case s3 => first | exact HO.out | exact all_oneCell_toArray HO.out
  refine bodyPost_ret (v := .tuple #[.agg YC.toArray, .int .u8 0, .int .u64 0]) (results_ctt Tryd.results18 _ _ (w.heap.size + 1) YC _ rfl F.out.2 Tryd.underlying26 rfl I2.out) rfl F.out.1
set_option maxRecDepth 8000 in
set_option maxHeartbeats 8000000 in
theorem rs_sum6 {B mb : Nat} {pv : Nat → Value} {M : Me} {w : World} (x : Se) (hx : x.Ok) (h8 : x.Ok8) (s : Mm B mb pv M w) (time me : Int) (hst : x.st = 0) (hln : lineL x = -1) (v : Nat) (hv : v < 2 ^ 32) (hld : loadL M (x.r.getD 17 0) (x.r.getD 16 0) 4 = some v) (a b d : Nat) (ha : a < 16) (hb16 : b < 16) (hd : d < 16) (hr : rightB ((6 : Nat) : Int) a b ((d : Nat) : Int) 0 = true) (hw : wordF 6 a b d 0 = v) (qc : (v : Int) / 67108864 = 6) (qa : (v : Int) / 4194304 % 16 = a) (qb : (v : Int) / 262144 % 16 = b) (qd : (v : Int) % 16 = d) :
    Calls Tryd.prog 18 #[.agg x.cells.toArray, .pointer (some ⟨mb, 0, none⟩), .int .u64 time, .int .i64 me] w (RStepP B mb pv ⟨(x.reg a (sumN 6 (x.r.getD b 0) (x.r.getD d 0))).reg 16 (nxN x), M, 0, 0⟩ w) := by
  have R := Lib.hid (Rs.new (x := x) s)
  have LC := Lib.hid (fun W => refLine_calls x hx h8 W)
  rw [hln] at LC
  have GC := Lib.hid (fun W (h : Mm B mb pv M W) => refGet_calls x hx h (x.r.getD 16 0) 4 (getD_lt hx 16) (.inl rfl))
  rw [hld] at GC
  simp only [loadE] at GC
  have hz := zero_val
  have HZL := Lib.hid zero_ok.len
  have HX := Lib.hid hx
  have I0 := Lib.hid (info_se hx)
  have I26 := Lib.hid size26
  have XL := Lib.hid hx.len
  have ZL := Lib.hid (fun (a : Nat) (ha : a < 26) => ha)
  have G16 := Lib.hid (hx.gr (i := 16) (by decide))
  have G23 := Lib.hid hx.g23
  rw [hst] at G23
  have FC : Hid (∀ W, Calls Tryd.prog 12 #[.int .u8 6] W fun e w' => e = .returned (.int .i64 7) ∧ Below W.heap.size W w') := fun W => refFields_calls 6 (by decide) W
  have RR : Hid (∀ W, Calls Tryd.prog 27 #[.int .u8 6, .int .u8 (a : Int), .int .u8 (b : Int), .int .u8 (d : Int), .int .i16 0] W fun e w' => e = .returned (.bool true) ∧ Below W.heap.size W w') := fun W => hr ▸ refRight_calls 6 a b d 0 W
  have RW : Hid (∀ W, Calls Tryd.prog 13 #[.int .u8 6, .int .u8 (a : Int), .int .u8 (b : Int), .int .u8 (d : Int), .int .i16 0] W fun e w' => e = .returned (.int .u32 (v : Int)) ∧ Below W.heap.size W w') := fun W => hw ▸ refWord_calls 6 a b d 0 (by decide) ha hb16 hd W
  clear hr hw
  have HA := Lib.hid ha
  have HB := Lib.hid hb16
  have hwx := nx_wrap x
  have NL := Lib.hid (nx_lt x)
  have GA := Lib.hid (hx.gr (i := a) (by omega))
  have GB := Lib.hid (hx.gr (i := b) (by omega))
  have GD := Lib.hid (hx.gr (i := d) (by omega))
  have HVA := Lib.hid (getD_lt hx a)
  have HVB := Lib.hid (getD_lt hx b)
  have HVD := Lib.hid (getD_lt hx d)
  have hai : (a : Int) ≤ 15 := by omega
  have hbi : (b : Int) ≤ 15 := by omega
  have hai0 : 0 ≤ (a : Int) := by omega
  have hbi0 : 0 ≤ (b : Int) := by omega
  have hai1 : (a : Int) < 16 := by omega
  have hbi1 : (b : Int) < 16 := by omega
  have hai2 : ¬ (a : Int) < 0 := by omega
  have hbi2 : ¬ (b : Int) < 0 := by omega
  have hdi1 : (d : Int) < 16 := by omega
  have hdi2 : ¬ (d : Int) < 0 := by omega
  have hdi : (d : Int) ≤ 15 := by omega
  have hdi0 : 0 ≤ (d : Int) := by omega
  have hsum := sumN_eq 6 (x.r.getD b 0) (x.r.getD d 0) (by decide) (getD_lt hx b) (getD_lt hx d)
  dsimp only [sumI] at hsum
  have SL := Lib.hid (sumN_lt 6 (x.r.getD b 0) (x.r.getD d 0))
  generalize sumN 6 (x.r.getD b 0) (x.r.getD d 0) = sm at *
  generalize nxN x = nx at *
  generalize x.r.getD a 0 = va at *
  generalize x.r.getD b 0 = vb at *
  generalize x.r.getD d 0 = vd at *
  clear hln hld s hx h8 hst
  generalize x.r.getD 16 0 = pc at *
  generalize hZC : zeroSe.cells = ZC at *
  have hZC := Lib.hid hZC
  have hzs : ZC.toArray.size = 26 := by simpa using HZL.out
  have hzn : ¬ ZC.toArray = #[] := fun h => by rw [h] at hzs; simp at hzs
  generalize hXC : x.cells = XC at *
  have hXC := Lib.hid hXC
  go_enter Tryd.func18, Tryd.ntmps18
  go_upto_region 1 with (fail)
  generalize hw1 : (w.alloc (.cells _ 26)).alloc _ = w1 at *
  clear hw1 hzs hzn hz
  have c23 := R.out.s.cellAt (hXC.out ▸ G23.out)
  go_upto_region 4 with (first
    | (refine wpList_load_mid rfl 26 (.tmp 4) rfl w.heap.size 0 rfl XC _ (hXC.out ▸ range_all R.out.s) Tryd.underlying26 rfl I0.out ?_)
    | (go_at_call 17; refine (LC.out _).mono ?_; rintro e w2 ⟨rfl, b2⟩; have R2 := Lib.hid (R.out.step b2); clear b2))
  clear R LC c23
  have c16 := R2.out.s.cellAt (hXC.out ▸ G16.out)
  go_upto_region 8 with (first
    | (refine wpList_load_mid rfl 26 (.tmp 4) rfl w.heap.size 0 rfl XC _ (hXC.out ▸ range_all R2.out.s) Tryd.underlying26 rfl I0.out ?_)
    | (go_at_call 26; refine (GC.out _ R2.out.m).mono ?_; rintro e w3 ⟨rfl, b3⟩; have R3 := Lib.hid (R2.out.step b3); clear b3))
  clear R2 GC c16
  go_upto_region 18 with (go_at_call 12; refine (FC.out _).mono ?_; rintro e w4 ⟨rfl, b4⟩; have R4 := Lib.hid (R3.out.step b4); clear b4)
  clear FC R3
  go_upto_region 20 with (first
    | (go_at_call 27; refine (RR.out _).mono ?_; rintro e w5 ⟨rfl, b5⟩; have R5 := Lib.hid (R4.out.step b5); clear b5)
    | (go_at_call 13; refine (RW.out _).mono ?_; rintro e w6 ⟨rfl, b6⟩; have R6 := Lib.hid (R5.out.step b6); clear b6))
  clear R4 R5 RR RW
  have c16 := R6.out.s.cellAt (hXC.out ▸ G16.out)
  have cA := R6.out.s.cellAt (hXC.out ▸ GA.out)
  have cB := R6.out.s.cellAt (hXC.out ▸ GB.out)
  have cD := R6.out.s.cellAt (hXC.out ▸ GD.out)
  have fA := R6.out.s.unfrozen a
  have E1 := Lib.hid (R6.out.reg HX.out (a := a) (by have := HA.out; omega) sm)
  go_upto_region 103 with (fail)
  generalize World.setCell _ _ _ = w7 at *
  have OK1 := Lib.hid (show (x.reg a sm).Ok from HX.out.reg (a := a) SL.out)
  have t16 := E1.out.s.cellAt (OK1.out.gr (i := 16) (by decide))
  have tf := E1.out.s.unfrozen 16
  have E2 := Lib.hid (E1.out.reg OK1.out (a := 16) (by decide) nx)
  have OK2 := Lib.hid (OK1.out.reg (a := 16) (v := nx) NL.out)
  clear E1 OK1
  go_upto_region 104 with (fail)
  have F := Lib.hid (E2.out.fin OK2.out 0 0)
  have RA := Lib.hid (range_all E2.out.s)
  have RZ := Lib.hid E2.out.z
  rw [hZC.out] at RZ
  have I2 := Lib.hid (info_se OK2.out)
  have HO := Lib.hid (Se.one ((x.reg a sm).reg 16 nx))
  have YL := Lib.hid OK2.out.len
  generalize hw9 : World.setCell _ _ _ = w9 at *
  clear hw9
  clear E2
  generalize ((x.reg a sm).reg 16 nx).cells = YC at *
  go_wp2_with (first
    | (refine wpList_load_mid rfl 26 (.tmp 4) rfl w.heap.size 0 rfl YC _ RA.out Tryd.underlying26 rfl I2.out ?_)
    | (refine wpList_store_mid rfl 26 (.tmp 8) (.tmp 410) rfl (w.heap.size + 1) 0 YC.toArray rfl rfl (there_of_blk RZ.out ?s1) ?s2 ?s3 ?_))
  case s1 => have h1 := HZL.out; have h2 := YL.out; simp; omega
  case s2 => simpa using I2.out
  case s3 => first | exact HO.out | exact all_oneCell_toArray HO.out
  refine bodyPost_ret (v := .tuple #[.agg YC.toArray, .int .u8 0, .int .u64 0]) (results_ctt Tryd.results18 _ _ (w.heap.size + 1) YC _ rfl F.out.2 Tryd.underlying26 rfl I2.out) rfl F.out.1
set_option maxRecDepth 8000 in
set_option maxHeartbeats 8000000 in
theorem rs_sum7 {B mb : Nat} {pv : Nat → Value} {M : Me} {w : World} (x : Se) (hx : x.Ok) (h8 : x.Ok8) (s : Mm B mb pv M w) (time me : Int) (hst : x.st = 0) (hln : lineL x = -1) (v : Nat) (hv : v < 2 ^ 32) (hld : loadL M (x.r.getD 17 0) (x.r.getD 16 0) 4 = some v) (a b d : Nat) (ha : a < 16) (hb16 : b < 16) (hd : d < 16) (hr : rightB ((7 : Nat) : Int) a b ((d : Nat) : Int) 0 = true) (hw : wordF 7 a b d 0 = v) (qc : (v : Int) / 67108864 = 7) (qa : (v : Int) / 4194304 % 16 = a) (qb : (v : Int) / 262144 % 16 = b) (qd : (v : Int) % 16 = d) :
    Calls Tryd.prog 18 #[.agg x.cells.toArray, .pointer (some ⟨mb, 0, none⟩), .int .u64 time, .int .i64 me] w (RStepP B mb pv ⟨(x.reg a (sumN 7 (x.r.getD b 0) (x.r.getD d 0))).reg 16 (nxN x), M, 0, 0⟩ w) := by
  have R := Lib.hid (Rs.new (x := x) s)
  have LC := Lib.hid (fun W => refLine_calls x hx h8 W)
  rw [hln] at LC
  have GC := Lib.hid (fun W (h : Mm B mb pv M W) => refGet_calls x hx h (x.r.getD 16 0) 4 (getD_lt hx 16) (.inl rfl))
  rw [hld] at GC
  simp only [loadE] at GC
  have hz := zero_val
  have HZL := Lib.hid zero_ok.len
  have HX := Lib.hid hx
  have I0 := Lib.hid (info_se hx)
  have I26 := Lib.hid size26
  have XL := Lib.hid hx.len
  have ZL := Lib.hid (fun (a : Nat) (ha : a < 26) => ha)
  have G16 := Lib.hid (hx.gr (i := 16) (by decide))
  have G23 := Lib.hid hx.g23
  rw [hst] at G23
  have FC : Hid (∀ W, Calls Tryd.prog 12 #[.int .u8 7] W fun e w' => e = .returned (.int .i64 7) ∧ Below W.heap.size W w') := fun W => refFields_calls 7 (by decide) W
  have RR : Hid (∀ W, Calls Tryd.prog 27 #[.int .u8 7, .int .u8 (a : Int), .int .u8 (b : Int), .int .u8 (d : Int), .int .i16 0] W fun e w' => e = .returned (.bool true) ∧ Below W.heap.size W w') := fun W => hr ▸ refRight_calls 7 a b d 0 W
  have RW : Hid (∀ W, Calls Tryd.prog 13 #[.int .u8 7, .int .u8 (a : Int), .int .u8 (b : Int), .int .u8 (d : Int), .int .i16 0] W fun e w' => e = .returned (.int .u32 (v : Int)) ∧ Below W.heap.size W w') := fun W => hw ▸ refWord_calls 7 a b d 0 (by decide) ha hb16 hd W
  clear hr hw
  have HA := Lib.hid ha
  have HB := Lib.hid hb16
  have hwx := nx_wrap x
  have NL := Lib.hid (nx_lt x)
  have GA := Lib.hid (hx.gr (i := a) (by omega))
  have GB := Lib.hid (hx.gr (i := b) (by omega))
  have GD := Lib.hid (hx.gr (i := d) (by omega))
  have HVA := Lib.hid (getD_lt hx a)
  have HVB := Lib.hid (getD_lt hx b)
  have HVD := Lib.hid (getD_lt hx d)
  have hai : (a : Int) ≤ 15 := by omega
  have hbi : (b : Int) ≤ 15 := by omega
  have hai0 : 0 ≤ (a : Int) := by omega
  have hbi0 : 0 ≤ (b : Int) := by omega
  have hai1 : (a : Int) < 16 := by omega
  have hbi1 : (b : Int) < 16 := by omega
  have hai2 : ¬ (a : Int) < 0 := by omega
  have hbi2 : ¬ (b : Int) < 0 := by omega
  have hdi1 : (d : Int) < 16 := by omega
  have hdi2 : ¬ (d : Int) < 0 := by omega
  have hdi : (d : Int) ≤ 15 := by omega
  have hdi0 : 0 ≤ (d : Int) := by omega
  have hsum := sumN_eq 7 (x.r.getD b 0) (x.r.getD d 0) (by decide) (getD_lt hx b) (getD_lt hx d)
  dsimp only [sumI] at hsum
  have SL := Lib.hid (sumN_lt 7 (x.r.getD b 0) (x.r.getD d 0))
  generalize sumN 7 (x.r.getD b 0) (x.r.getD d 0) = sm at *
  generalize nxN x = nx at *
  generalize x.r.getD a 0 = va at *
  generalize x.r.getD b 0 = vb at *
  generalize x.r.getD d 0 = vd at *
  clear hln hld s hx h8 hst
  generalize x.r.getD 16 0 = pc at *
  generalize hZC : zeroSe.cells = ZC at *
  have hZC := Lib.hid hZC
  have hzs : ZC.toArray.size = 26 := by simpa using HZL.out
  have hzn : ¬ ZC.toArray = #[] := fun h => by rw [h] at hzs; simp at hzs
  generalize hXC : x.cells = XC at *
  have hXC := Lib.hid hXC
  go_enter Tryd.func18, Tryd.ntmps18
  go_upto_region 1 with (fail)
  generalize hw1 : (w.alloc (.cells _ 26)).alloc _ = w1 at *
  clear hw1 hzs hzn hz
  have c23 := R.out.s.cellAt (hXC.out ▸ G23.out)
  go_upto_region 4 with (first
    | (refine wpList_load_mid rfl 26 (.tmp 4) rfl w.heap.size 0 rfl XC _ (hXC.out ▸ range_all R.out.s) Tryd.underlying26 rfl I0.out ?_)
    | (go_at_call 17; refine (LC.out _).mono ?_; rintro e w2 ⟨rfl, b2⟩; have R2 := Lib.hid (R.out.step b2); clear b2))
  clear R LC c23
  have c16 := R2.out.s.cellAt (hXC.out ▸ G16.out)
  go_upto_region 8 with (first
    | (refine wpList_load_mid rfl 26 (.tmp 4) rfl w.heap.size 0 rfl XC _ (hXC.out ▸ range_all R2.out.s) Tryd.underlying26 rfl I0.out ?_)
    | (go_at_call 26; refine (GC.out _ R2.out.m).mono ?_; rintro e w3 ⟨rfl, b3⟩; have R3 := Lib.hid (R2.out.step b3); clear b3))
  clear R2 GC c16
  go_upto_region 18 with (go_at_call 12; refine (FC.out _).mono ?_; rintro e w4 ⟨rfl, b4⟩; have R4 := Lib.hid (R3.out.step b4); clear b4)
  clear FC R3
  go_upto_region 20 with (first
    | (go_at_call 27; refine (RR.out _).mono ?_; rintro e w5 ⟨rfl, b5⟩; have R5 := Lib.hid (R4.out.step b5); clear b5)
    | (go_at_call 13; refine (RW.out _).mono ?_; rintro e w6 ⟨rfl, b6⟩; have R6 := Lib.hid (R5.out.step b6); clear b6))
  clear R4 R5 RR RW
  have c16 := R6.out.s.cellAt (hXC.out ▸ G16.out)
  have cA := R6.out.s.cellAt (hXC.out ▸ GA.out)
  have cB := R6.out.s.cellAt (hXC.out ▸ GB.out)
  have cD := R6.out.s.cellAt (hXC.out ▸ GD.out)
  have fA := R6.out.s.unfrozen a
  have E1 := Lib.hid (R6.out.reg HX.out (a := a) (by have := HA.out; omega) sm)
  go_upto_region 103 with (fail)
  generalize World.setCell _ _ _ = w7 at *
  have OK1 := Lib.hid (show (x.reg a sm).Ok from HX.out.reg (a := a) SL.out)
  have t16 := E1.out.s.cellAt (OK1.out.gr (i := 16) (by decide))
  have tf := E1.out.s.unfrozen 16
  have E2 := Lib.hid (E1.out.reg OK1.out (a := 16) (by decide) nx)
  have OK2 := Lib.hid (OK1.out.reg (a := 16) (v := nx) NL.out)
  clear E1 OK1
  go_upto_region 104 with (fail)
  have F := Lib.hid (E2.out.fin OK2.out 0 0)
  have RA := Lib.hid (range_all E2.out.s)
  have RZ := Lib.hid E2.out.z
  rw [hZC.out] at RZ
  have I2 := Lib.hid (info_se OK2.out)
  have HO := Lib.hid (Se.one ((x.reg a sm).reg 16 nx))
  have YL := Lib.hid OK2.out.len
  generalize hw9 : World.setCell _ _ _ = w9 at *
  clear hw9
  clear E2
  generalize ((x.reg a sm).reg 16 nx).cells = YC at *
  go_wp2_with (first
    | (refine wpList_load_mid rfl 26 (.tmp 4) rfl w.heap.size 0 rfl YC _ RA.out Tryd.underlying26 rfl I2.out ?_)
    | (refine wpList_store_mid rfl 26 (.tmp 8) (.tmp 410) rfl (w.heap.size + 1) 0 YC.toArray rfl rfl (there_of_blk RZ.out ?s1) ?s2 ?s3 ?_))
  case s1 => have h1 := HZL.out; have h2 := YL.out; simp; omega
  case s2 => simpa using I2.out
  case s3 => first | exact HO.out | exact all_oneCell_toArray HO.out
  refine bodyPost_ret (v := .tuple #[.agg YC.toArray, .int .u8 0, .int .u64 0]) (results_ctt Tryd.results18 _ _ (w.heap.size + 1) YC _ rfl F.out.2 Tryd.underlying26 rfl I2.out) rfl F.out.1
set_option maxRecDepth 8000 in
set_option maxHeartbeats 8000000 in
theorem rs_sum8 {B mb : Nat} {pv : Nat → Value} {M : Me} {w : World} (x : Se) (hx : x.Ok) (h8 : x.Ok8) (s : Mm B mb pv M w) (time me : Int) (hst : x.st = 0) (hln : lineL x = -1) (v : Nat) (hv : v < 2 ^ 32) (hld : loadL M (x.r.getD 17 0) (x.r.getD 16 0) 4 = some v) (a b d : Nat) (ha : a < 16) (hb16 : b < 16) (hd : d < 16) (hr : rightB ((8 : Nat) : Int) a b ((d : Nat) : Int) 0 = true) (hw : wordF 8 a b d 0 = v) (qc : (v : Int) / 67108864 = 8) (qa : (v : Int) / 4194304 % 16 = a) (qb : (v : Int) / 262144 % 16 = b) (qd : (v : Int) % 16 = d) :
    Calls Tryd.prog 18 #[.agg x.cells.toArray, .pointer (some ⟨mb, 0, none⟩), .int .u64 time, .int .i64 me] w (RStepP B mb pv ⟨(x.reg a (sumN 8 (x.r.getD b 0) (x.r.getD d 0))).reg 16 (nxN x), M, 0, 0⟩ w) := by
  have R := Lib.hid (Rs.new (x := x) s)
  have LC := Lib.hid (fun W => refLine_calls x hx h8 W)
  rw [hln] at LC
  have GC := Lib.hid (fun W (h : Mm B mb pv M W) => refGet_calls x hx h (x.r.getD 16 0) 4 (getD_lt hx 16) (.inl rfl))
  rw [hld] at GC
  simp only [loadE] at GC
  have hz := zero_val
  have HZL := Lib.hid zero_ok.len
  have HX := Lib.hid hx
  have I0 := Lib.hid (info_se hx)
  have I26 := Lib.hid size26
  have XL := Lib.hid hx.len
  have ZL := Lib.hid (fun (a : Nat) (ha : a < 26) => ha)
  have G16 := Lib.hid (hx.gr (i := 16) (by decide))
  have G23 := Lib.hid hx.g23
  rw [hst] at G23
  have FC : Hid (∀ W, Calls Tryd.prog 12 #[.int .u8 8] W fun e w' => e = .returned (.int .i64 7) ∧ Below W.heap.size W w') := fun W => refFields_calls 8 (by decide) W
  have RR : Hid (∀ W, Calls Tryd.prog 27 #[.int .u8 8, .int .u8 (a : Int), .int .u8 (b : Int), .int .u8 (d : Int), .int .i16 0] W fun e w' => e = .returned (.bool true) ∧ Below W.heap.size W w') := fun W => hr ▸ refRight_calls 8 a b d 0 W
  have RW : Hid (∀ W, Calls Tryd.prog 13 #[.int .u8 8, .int .u8 (a : Int), .int .u8 (b : Int), .int .u8 (d : Int), .int .i16 0] W fun e w' => e = .returned (.int .u32 (v : Int)) ∧ Below W.heap.size W w') := fun W => hw ▸ refWord_calls 8 a b d 0 (by decide) ha hb16 hd W
  clear hr hw
  have HA := Lib.hid ha
  have HB := Lib.hid hb16
  have hwx := nx_wrap x
  have NL := Lib.hid (nx_lt x)
  have GA := Lib.hid (hx.gr (i := a) (by omega))
  have GB := Lib.hid (hx.gr (i := b) (by omega))
  have GD := Lib.hid (hx.gr (i := d) (by omega))
  have HVA := Lib.hid (getD_lt hx a)
  have HVB := Lib.hid (getD_lt hx b)
  have HVD := Lib.hid (getD_lt hx d)
  have hai : (a : Int) ≤ 15 := by omega
  have hbi : (b : Int) ≤ 15 := by omega
  have hai0 : 0 ≤ (a : Int) := by omega
  have hbi0 : 0 ≤ (b : Int) := by omega
  have hai1 : (a : Int) < 16 := by omega
  have hbi1 : (b : Int) < 16 := by omega
  have hai2 : ¬ (a : Int) < 0 := by omega
  have hbi2 : ¬ (b : Int) < 0 := by omega
  have hdi1 : (d : Int) < 16 := by omega
  have hdi2 : ¬ (d : Int) < 0 := by omega
  have hdi : (d : Int) ≤ 15 := by omega
  have hdi0 : 0 ≤ (d : Int) := by omega
  have hsum := sumN_eq 8 (x.r.getD b 0) (x.r.getD d 0) (by decide) (getD_lt hx b) (getD_lt hx d)
  dsimp only [sumI] at hsum
  have SL := Lib.hid (sumN_lt 8 (x.r.getD b 0) (x.r.getD d 0))
  generalize sumN 8 (x.r.getD b 0) (x.r.getD d 0) = sm at *
  generalize nxN x = nx at *
  generalize x.r.getD a 0 = va at *
  generalize x.r.getD b 0 = vb at *
  generalize x.r.getD d 0 = vd at *
  clear hln hld s hx h8 hst
  generalize x.r.getD 16 0 = pc at *
  generalize hZC : zeroSe.cells = ZC at *
  have hZC := Lib.hid hZC
  have hzs : ZC.toArray.size = 26 := by simpa using HZL.out
  have hzn : ¬ ZC.toArray = #[] := fun h => by rw [h] at hzs; simp at hzs
  generalize hXC : x.cells = XC at *
  have hXC := Lib.hid hXC
  go_enter Tryd.func18, Tryd.ntmps18
  go_upto_region 1 with (fail)
  generalize hw1 : (w.alloc (.cells _ 26)).alloc _ = w1 at *
  clear hw1 hzs hzn hz
  have c23 := R.out.s.cellAt (hXC.out ▸ G23.out)
  go_upto_region 4 with (first
    | (refine wpList_load_mid rfl 26 (.tmp 4) rfl w.heap.size 0 rfl XC _ (hXC.out ▸ range_all R.out.s) Tryd.underlying26 rfl I0.out ?_)
    | (go_at_call 17; refine (LC.out _).mono ?_; rintro e w2 ⟨rfl, b2⟩; have R2 := Lib.hid (R.out.step b2); clear b2))
  clear R LC c23
  have c16 := R2.out.s.cellAt (hXC.out ▸ G16.out)
  go_upto_region 8 with (first
    | (refine wpList_load_mid rfl 26 (.tmp 4) rfl w.heap.size 0 rfl XC _ (hXC.out ▸ range_all R2.out.s) Tryd.underlying26 rfl I0.out ?_)
    | (go_at_call 26; refine (GC.out _ R2.out.m).mono ?_; rintro e w3 ⟨rfl, b3⟩; have R3 := Lib.hid (R2.out.step b3); clear b3))
  clear R2 GC c16
  go_upto_region 18 with (go_at_call 12; refine (FC.out _).mono ?_; rintro e w4 ⟨rfl, b4⟩; have R4 := Lib.hid (R3.out.step b4); clear b4)
  clear FC R3
  go_upto_region 20 with (first
    | (go_at_call 27; refine (RR.out _).mono ?_; rintro e w5 ⟨rfl, b5⟩; have R5 := Lib.hid (R4.out.step b5); clear b5)
    | (go_at_call 13; refine (RW.out _).mono ?_; rintro e w6 ⟨rfl, b6⟩; have R6 := Lib.hid (R5.out.step b6); clear b6))
  clear R4 R5 RR RW
  have c16 := R6.out.s.cellAt (hXC.out ▸ G16.out)
  have cA := R6.out.s.cellAt (hXC.out ▸ GA.out)
  have cB := R6.out.s.cellAt (hXC.out ▸ GB.out)
  have cD := R6.out.s.cellAt (hXC.out ▸ GD.out)
  have fA := R6.out.s.unfrozen a
  have E1 := Lib.hid (R6.out.reg HX.out (a := a) (by have := HA.out; omega) sm)
  go_upto_region 103 with (fail)
  generalize World.setCell _ _ _ = w7 at *
  have OK1 := Lib.hid (show (x.reg a sm).Ok from HX.out.reg (a := a) SL.out)
  have t16 := E1.out.s.cellAt (OK1.out.gr (i := 16) (by decide))
  have tf := E1.out.s.unfrozen 16
  have E2 := Lib.hid (E1.out.reg OK1.out (a := 16) (by decide) nx)
  have OK2 := Lib.hid (OK1.out.reg (a := 16) (v := nx) NL.out)
  clear E1 OK1
  go_upto_region 104 with (fail)
  have F := Lib.hid (E2.out.fin OK2.out 0 0)
  have RA := Lib.hid (range_all E2.out.s)
  have RZ := Lib.hid E2.out.z
  rw [hZC.out] at RZ
  have I2 := Lib.hid (info_se OK2.out)
  have HO := Lib.hid (Se.one ((x.reg a sm).reg 16 nx))
  have YL := Lib.hid OK2.out.len
  generalize hw9 : World.setCell _ _ _ = w9 at *
  clear hw9
  clear E2
  generalize ((x.reg a sm).reg 16 nx).cells = YC at *
  go_wp2_with (first
    | (refine wpList_load_mid rfl 26 (.tmp 4) rfl w.heap.size 0 rfl YC _ RA.out Tryd.underlying26 rfl I2.out ?_)
    | (refine wpList_store_mid rfl 26 (.tmp 8) (.tmp 410) rfl (w.heap.size + 1) 0 YC.toArray rfl rfl (there_of_blk RZ.out ?s1) ?s2 ?s3 ?_))
  case s1 => have h1 := HZL.out; have h2 := YL.out; simp; omega
  case s2 => simpa using I2.out
  case s3 => first | exact HO.out | exact all_oneCell_toArray HO.out
  refine bodyPost_ret (v := .tuple #[.agg YC.toArray, .int .u8 0, .int .u64 0]) (results_ctt Tryd.results18 _ _ (w.heap.size + 1) YC _ rfl F.out.2 Tryd.underlying26 rfl I2.out) rfl F.out.1
set_option maxRecDepth 8000 in
set_option maxHeartbeats 8000000 in
theorem rs_sum9 {B mb : Nat} {pv : Nat → Value} {M : Me} {w : World} (x : Se) (hx : x.Ok) (h8 : x.Ok8) (s : Mm B mb pv M w) (time me : Int) (hst : x.st = 0) (hln : lineL x = -1) (v : Nat) (hv : v < 2 ^ 32) (hld : loadL M (x.r.getD 17 0) (x.r.getD 16 0) 4 = some v) (a b d : Nat) (ha : a < 16) (hb16 : b < 16) (hd : d < 16) (hr : rightB ((9 : Nat) : Int) a b ((d : Nat) : Int) 0 = true) (hw : wordF 9 a b d 0 = v) (qc : (v : Int) / 67108864 = 9) (qa : (v : Int) / 4194304 % 16 = a) (qb : (v : Int) / 262144 % 16 = b) (qd : (v : Int) % 16 = d) :
    Calls Tryd.prog 18 #[.agg x.cells.toArray, .pointer (some ⟨mb, 0, none⟩), .int .u64 time, .int .i64 me] w (RStepP B mb pv ⟨(x.reg a (sumN 9 (x.r.getD b 0) (x.r.getD d 0))).reg 16 (nxN x), M, 0, 0⟩ w) := by
  have R := Lib.hid (Rs.new (x := x) s)
  have LC := Lib.hid (fun W => refLine_calls x hx h8 W)
  rw [hln] at LC
  have GC := Lib.hid (fun W (h : Mm B mb pv M W) => refGet_calls x hx h (x.r.getD 16 0) 4 (getD_lt hx 16) (.inl rfl))
  rw [hld] at GC
  simp only [loadE] at GC
  have hz := zero_val
  have HZL := Lib.hid zero_ok.len
  have HX := Lib.hid hx
  have I0 := Lib.hid (info_se hx)
  have I26 := Lib.hid size26
  have XL := Lib.hid hx.len
  have ZL := Lib.hid (fun (a : Nat) (ha : a < 26) => ha)
  have G16 := Lib.hid (hx.gr (i := 16) (by decide))
  have G23 := Lib.hid hx.g23
  rw [hst] at G23
  have FC : Hid (∀ W, Calls Tryd.prog 12 #[.int .u8 9] W fun e w' => e = .returned (.int .i64 7) ∧ Below W.heap.size W w') := fun W => refFields_calls 9 (by decide) W
  have RR : Hid (∀ W, Calls Tryd.prog 27 #[.int .u8 9, .int .u8 (a : Int), .int .u8 (b : Int), .int .u8 (d : Int), .int .i16 0] W fun e w' => e = .returned (.bool true) ∧ Below W.heap.size W w') := fun W => hr ▸ refRight_calls 9 a b d 0 W
  have RW : Hid (∀ W, Calls Tryd.prog 13 #[.int .u8 9, .int .u8 (a : Int), .int .u8 (b : Int), .int .u8 (d : Int), .int .i16 0] W fun e w' => e = .returned (.int .u32 (v : Int)) ∧ Below W.heap.size W w') := fun W => hw ▸ refWord_calls 9 a b d 0 (by decide) ha hb16 hd W
  clear hr hw
  have HA := Lib.hid ha
  have HB := Lib.hid hb16
  have hwx := nx_wrap x
  have NL := Lib.hid (nx_lt x)
  have GA := Lib.hid (hx.gr (i := a) (by omega))
  have GB := Lib.hid (hx.gr (i := b) (by omega))
  have GD := Lib.hid (hx.gr (i := d) (by omega))
  have HVA := Lib.hid (getD_lt hx a)
  have HVB := Lib.hid (getD_lt hx b)
  have HVD := Lib.hid (getD_lt hx d)
  have hai : (a : Int) ≤ 15 := by omega
  have hbi : (b : Int) ≤ 15 := by omega
  have hai0 : 0 ≤ (a : Int) := by omega
  have hbi0 : 0 ≤ (b : Int) := by omega
  have hai1 : (a : Int) < 16 := by omega
  have hbi1 : (b : Int) < 16 := by omega
  have hai2 : ¬ (a : Int) < 0 := by omega
  have hbi2 : ¬ (b : Int) < 0 := by omega
  have hdi1 : (d : Int) < 16 := by omega
  have hdi2 : ¬ (d : Int) < 0 := by omega
  have hdi : (d : Int) ≤ 15 := by omega
  have hdi0 : 0 ≤ (d : Int) := by omega
  have hsum := sumN_eq 9 (x.r.getD b 0) (x.r.getD d 0) (by decide) (getD_lt hx b) (getD_lt hx d)
  dsimp only [sumI] at hsum
  have SL := Lib.hid (sumN_lt 9 (x.r.getD b 0) (x.r.getD d 0))
  generalize sumN 9 (x.r.getD b 0) (x.r.getD d 0) = sm at *
  obtain ⟨q, hq⟩ : ∃ q, x.r.getD d 0 % 64 = q := ⟨_, rfl⟩
  rw [hq] at hsum
  have hqi : ((x.r.getD d 0 : Nat) : Int) % 64 = (q : Int) := by omega
  have hq0 : 0 ≤ (q : Int) := by omega
  have hq1 : (q : Int) ≤ 63 := by omega
  have hq2 : (q : Int).toNat = q := by omega
  clear hq
  generalize nxN x = nx at *
  generalize x.r.getD a 0 = va at *
  generalize x.r.getD b 0 = vb at *
  generalize x.r.getD d 0 = vd at *
  clear hln hld s hx h8 hst
  generalize x.r.getD 16 0 = pc at *
  generalize hZC : zeroSe.cells = ZC at *
  have hZC := Lib.hid hZC
  have hzs : ZC.toArray.size = 26 := by simpa using HZL.out
  have hzn : ¬ ZC.toArray = #[] := fun h => by rw [h] at hzs; simp at hzs
  generalize hXC : x.cells = XC at *
  have hXC := Lib.hid hXC
  go_enter Tryd.func18, Tryd.ntmps18
  go_upto_region 1 with (fail)
  generalize hw1 : (w.alloc (.cells _ 26)).alloc _ = w1 at *
  clear hw1 hzs hzn hz
  have c23 := R.out.s.cellAt (hXC.out ▸ G23.out)
  go_upto_region 4 with (first
    | (refine wpList_load_mid rfl 26 (.tmp 4) rfl w.heap.size 0 rfl XC _ (hXC.out ▸ range_all R.out.s) Tryd.underlying26 rfl I0.out ?_)
    | (go_at_call 17; refine (LC.out _).mono ?_; rintro e w2 ⟨rfl, b2⟩; have R2 := Lib.hid (R.out.step b2); clear b2))
  clear R LC c23
  have c16 := R2.out.s.cellAt (hXC.out ▸ G16.out)
  go_upto_region 8 with (first
    | (refine wpList_load_mid rfl 26 (.tmp 4) rfl w.heap.size 0 rfl XC _ (hXC.out ▸ range_all R2.out.s) Tryd.underlying26 rfl I0.out ?_)
    | (go_at_call 26; refine (GC.out _ R2.out.m).mono ?_; rintro e w3 ⟨rfl, b3⟩; have R3 := Lib.hid (R2.out.step b3); clear b3))
  clear R2 GC c16
  go_upto_region 18 with (go_at_call 12; refine (FC.out _).mono ?_; rintro e w4 ⟨rfl, b4⟩; have R4 := Lib.hid (R3.out.step b4); clear b4)
  clear FC R3
  go_upto_region 20 with (first
    | (go_at_call 27; refine (RR.out _).mono ?_; rintro e w5 ⟨rfl, b5⟩; have R5 := Lib.hid (R4.out.step b5); clear b5)
    | (go_at_call 13; refine (RW.out _).mono ?_; rintro e w6 ⟨rfl, b6⟩; have R6 := Lib.hid (R5.out.step b6); clear b6))
  clear R4 R5 RR RW
  have c16 := R6.out.s.cellAt (hXC.out ▸ G16.out)
  have cA := R6.out.s.cellAt (hXC.out ▸ GA.out)
  have cB := R6.out.s.cellAt (hXC.out ▸ GB.out)
  have cD := R6.out.s.cellAt (hXC.out ▸ GD.out)
  have fA := R6.out.s.unfrozen a
  have E1 := Lib.hid (R6.out.reg HX.out (a := a) (by have := HA.out; omega) sm)
  go_upto_region 103 with (fail)
  generalize World.setCell _ _ _ = w7 at *
  have OK1 := Lib.hid (show (x.reg a sm).Ok from HX.out.reg (a := a) SL.out)
  have t16 := E1.out.s.cellAt (OK1.out.gr (i := 16) (by decide))
  have tf := E1.out.s.unfrozen 16
  have E2 := Lib.hid (E1.out.reg OK1.out (a := 16) (by decide) nx)
  have OK2 := Lib.hid (OK1.out.reg (a := 16) (v := nx) NL.out)
  clear E1 OK1
  go_upto_region 104 with (fail)
  have F := Lib.hid (E2.out.fin OK2.out 0 0)
  have RA := Lib.hid (range_all E2.out.s)
  have RZ := Lib.hid E2.out.z
  rw [hZC.out] at RZ
  have I2 := Lib.hid (info_se OK2.out)
  have HO := Lib.hid (Se.one ((x.reg a sm).reg 16 nx))
  have YL := Lib.hid OK2.out.len
  generalize hw9 : World.setCell _ _ _ = w9 at *
  clear hw9
  clear E2
  generalize ((x.reg a sm).reg 16 nx).cells = YC at *
  go_wp2_with (first
    | (refine wpList_load_mid rfl 26 (.tmp 4) rfl w.heap.size 0 rfl YC _ RA.out Tryd.underlying26 rfl I2.out ?_)
    | (refine wpList_store_mid rfl 26 (.tmp 8) (.tmp 410) rfl (w.heap.size + 1) 0 YC.toArray rfl rfl (there_of_blk RZ.out ?s1) ?s2 ?s3 ?_))
  case s1 => have h1 := HZL.out; have h2 := YL.out; simp; omega
  case s2 => simpa using I2.out
  case s3 => first | exact HO.out | exact all_oneCell_toArray HO.out
  refine bodyPost_ret (v := .tuple #[.agg YC.toArray, .int .u8 0, .int .u64 0]) (results_ctt Tryd.results18 _ _ (w.heap.size + 1) YC _ rfl F.out.2 Tryd.underlying26 rfl I2.out) rfl F.out.1
set_option maxRecDepth 8000 in
set_option maxHeartbeats 8000000 in
theorem rs_sum10 {B mb : Nat} {pv : Nat → Value} {M : Me} {w : World} (x : Se) (hx : x.Ok) (h8 : x.Ok8) (s : Mm B mb pv M w) (time me : Int) (hst : x.st = 0) (hln : lineL x = -1) (v : Nat) (hv : v < 2 ^ 32) (hld : loadL M (x.r.getD 17 0) (x.r.getD 16 0) 4 = some v) (a b d : Nat) (ha : a < 16) (hb16 : b < 16) (hd : d < 16) (hr : rightB ((10 : Nat) : Int) a b ((d : Nat) : Int) 0 = true) (hw : wordF 10 a b d 0 = v) (qc : (v : Int) / 67108864 = 10) (qa : (v : Int) / 4194304 % 16 = a) (qb : (v : Int) / 262144 % 16 = b) (qd : (v : Int) % 16 = d) :
    Calls Tryd.prog 18 #[.agg x.cells.toArray, .pointer (some ⟨mb, 0, none⟩), .int .u64 time, .int .i64 me] w (RStepP B mb pv ⟨(x.reg a (sumN 10 (x.r.getD b 0) (x.r.getD d 0))).reg 16 (nxN x), M, 0, 0⟩ w) := by
  have R := Lib.hid (Rs.new (x := x) s)
  have LC := Lib.hid (fun W => refLine_calls x hx h8 W)
  rw [hln] at LC
  have GC := Lib.hid (fun W (h : Mm B mb pv M W) => refGet_calls x hx h (x.r.getD 16 0) 4 (getD_lt hx 16) (.inl rfl))
  rw [hld] at GC
  simp only [loadE] at GC
  have hz := zero_val
  have HZL := Lib.hid zero_ok.len
  have HX := Lib.hid hx
  have I0 := Lib.hid (info_se hx)
  have I26 := Lib.hid size26
  have XL := Lib.hid hx.len
  have ZL := Lib.hid (fun (a : Nat) (ha : a < 26) => ha)
  have G16 := Lib.hid (hx.gr (i := 16) (by decide))
  have G23 := Lib.hid hx.g23
  rw [hst] at G23
  have FC : Hid (∀ W, Calls Tryd.prog 12 #[.int .u8 10] W fun e w' => e = .returned (.int .i64 7) ∧ Below W.heap.size W w') := fun W => refFields_calls 10 (by decide) W
  have RR : Hid (∀ W, Calls Tryd.prog 27 #[.int .u8 10, .int .u8 (a : Int), .int .u8 (b : Int), .int .u8 (d : Int), .int .i16 0] W fun e w' => e = .returned (.bool true) ∧ Below W.heap.size W w') := fun W => hr ▸ refRight_calls 10 a b d 0 W
  have RW : Hid (∀ W, Calls Tryd.prog 13 #[.int .u8 10, .int .u8 (a : Int), .int .u8 (b : Int), .int .u8 (d : Int), .int .i16 0] W fun e w' => e = .returned (.int .u32 (v : Int)) ∧ Below W.heap.size W w') := fun W => hw ▸ refWord_calls 10 a b d 0 (by decide) ha hb16 hd W
  clear hr hw
  have HA := Lib.hid ha
  have HB := Lib.hid hb16
  have hwx := nx_wrap x
  have NL := Lib.hid (nx_lt x)
  have GA := Lib.hid (hx.gr (i := a) (by omega))
  have GB := Lib.hid (hx.gr (i := b) (by omega))
  have GD := Lib.hid (hx.gr (i := d) (by omega))
  have HVA := Lib.hid (getD_lt hx a)
  have HVB := Lib.hid (getD_lt hx b)
  have HVD := Lib.hid (getD_lt hx d)
  have hai : (a : Int) ≤ 15 := by omega
  have hbi : (b : Int) ≤ 15 := by omega
  have hai0 : 0 ≤ (a : Int) := by omega
  have hbi0 : 0 ≤ (b : Int) := by omega
  have hai1 : (a : Int) < 16 := by omega
  have hbi1 : (b : Int) < 16 := by omega
  have hai2 : ¬ (a : Int) < 0 := by omega
  have hbi2 : ¬ (b : Int) < 0 := by omega
  have hdi1 : (d : Int) < 16 := by omega
  have hdi2 : ¬ (d : Int) < 0 := by omega
  have hdi : (d : Int) ≤ 15 := by omega
  have hdi0 : 0 ≤ (d : Int) := by omega
  have hsum := sumN_eq 10 (x.r.getD b 0) (x.r.getD d 0) (by decide) (getD_lt hx b) (getD_lt hx d)
  dsimp only [sumI] at hsum
  have SL := Lib.hid (sumN_lt 10 (x.r.getD b 0) (x.r.getD d 0))
  generalize sumN 10 (x.r.getD b 0) (x.r.getD d 0) = sm at *
  obtain ⟨q, hq⟩ : ∃ q, x.r.getD d 0 % 64 = q := ⟨_, rfl⟩
  rw [hq] at hsum
  have hqi : ((x.r.getD d 0 : Nat) : Int) % 64 = (q : Int) := by omega
  have hq0 : 0 ≤ (q : Int) := by omega
  have hq1 : (q : Int) ≤ 63 := by omega
  have hq2 : (q : Int).toNat = q := by omega
  clear hq
  generalize nxN x = nx at *
  generalize x.r.getD a 0 = va at *
  generalize x.r.getD b 0 = vb at *
  generalize x.r.getD d 0 = vd at *
  clear hln hld s hx h8 hst
  generalize x.r.getD 16 0 = pc at *
  generalize hZC : zeroSe.cells = ZC at *
  have hZC := Lib.hid hZC
  have hzs : ZC.toArray.size = 26 := by simpa using HZL.out
  have hzn : ¬ ZC.toArray = #[] := fun h => by rw [h] at hzs; simp at hzs
  generalize hXC : x.cells = XC at *
  have hXC := Lib.hid hXC
  go_enter Tryd.func18, Tryd.ntmps18
  go_upto_region 1 with (fail)
  generalize hw1 : (w.alloc (.cells _ 26)).alloc _ = w1 at *
  clear hw1 hzs hzn hz
  have c23 := R.out.s.cellAt (hXC.out ▸ G23.out)
  go_upto_region 4 with (first
    | (refine wpList_load_mid rfl 26 (.tmp 4) rfl w.heap.size 0 rfl XC _ (hXC.out ▸ range_all R.out.s) Tryd.underlying26 rfl I0.out ?_)
    | (go_at_call 17; refine (LC.out _).mono ?_; rintro e w2 ⟨rfl, b2⟩; have R2 := Lib.hid (R.out.step b2); clear b2))
  clear R LC c23
  have c16 := R2.out.s.cellAt (hXC.out ▸ G16.out)
  go_upto_region 8 with (first
    | (refine wpList_load_mid rfl 26 (.tmp 4) rfl w.heap.size 0 rfl XC _ (hXC.out ▸ range_all R2.out.s) Tryd.underlying26 rfl I0.out ?_)
    | (go_at_call 26; refine (GC.out _ R2.out.m).mono ?_; rintro e w3 ⟨rfl, b3⟩; have R3 := Lib.hid (R2.out.step b3); clear b3))
  clear R2 GC c16
  go_upto_region 18 with (go_at_call 12; refine (FC.out _).mono ?_; rintro e w4 ⟨rfl, b4⟩; have R4 := Lib.hid (R3.out.step b4); clear b4)
  clear FC R3
  go_upto_region 20 with (first
    | (go_at_call 27; refine (RR.out _).mono ?_; rintro e w5 ⟨rfl, b5⟩; have R5 := Lib.hid (R4.out.step b5); clear b5)
    | (go_at_call 13; refine (RW.out _).mono ?_; rintro e w6 ⟨rfl, b6⟩; have R6 := Lib.hid (R5.out.step b6); clear b6))
  clear R4 R5 RR RW
  have c16 := R6.out.s.cellAt (hXC.out ▸ G16.out)
  have cA := R6.out.s.cellAt (hXC.out ▸ GA.out)
  have cB := R6.out.s.cellAt (hXC.out ▸ GB.out)
  have cD := R6.out.s.cellAt (hXC.out ▸ GD.out)
  have fA := R6.out.s.unfrozen a
  have E1 := Lib.hid (R6.out.reg HX.out (a := a) (by have := HA.out; omega) sm)
  go_upto_region 103 with (fail)
  generalize World.setCell _ _ _ = w7 at *
  have OK1 := Lib.hid (show (x.reg a sm).Ok from HX.out.reg (a := a) SL.out)
  have t16 := E1.out.s.cellAt (OK1.out.gr (i := 16) (by decide))
  have tf := E1.out.s.unfrozen 16
  have E2 := Lib.hid (E1.out.reg OK1.out (a := 16) (by decide) nx)
  have OK2 := Lib.hid (OK1.out.reg (a := 16) (v := nx) NL.out)
  clear E1 OK1
  go_upto_region 104 with (fail)
  have F := Lib.hid (E2.out.fin OK2.out 0 0)
  have RA := Lib.hid (range_all E2.out.s)
  have RZ := Lib.hid E2.out.z
  rw [hZC.out] at RZ
  have I2 := Lib.hid (info_se OK2.out)
  have HO := Lib.hid (Se.one ((x.reg a sm).reg 16 nx))
  have YL := Lib.hid OK2.out.len
  generalize hw9 : World.setCell _ _ _ = w9 at *
  clear hw9
  clear E2
  generalize ((x.reg a sm).reg 16 nx).cells = YC at *
  go_wp2_with (first
    | (refine wpList_load_mid rfl 26 (.tmp 4) rfl w.heap.size 0 rfl YC _ RA.out Tryd.underlying26 rfl I2.out ?_)
    | (refine wpList_store_mid rfl 26 (.tmp 8) (.tmp 410) rfl (w.heap.size + 1) 0 YC.toArray rfl rfl (there_of_blk RZ.out ?s1) ?s2 ?s3 ?_))
  case s1 => have h1 := HZL.out; have h2 := YL.out; simp; omega
  case s2 => simpa using I2.out
  case s3 => first | exact HO.out | exact all_oneCell_toArray HO.out
  refine bodyPost_ret (v := .tuple #[.agg YC.toArray, .int .u8 0, .int .u64 0]) (results_ctt Tryd.results18 _ _ (w.heap.size + 1) YC _ rfl F.out.2 Tryd.underlying26 rfl I2.out) rfl F.out.1
set_option maxRecDepth 8000 in
set_option maxHeartbeats 8000000 in
theorem rs_addi {B mb : Nat} {pv : Nat → Value} {M : Me} {w : World} (x : Se) (hx : x.Ok) (h8 : x.Ok8) (s : Mm B mb pv M w) (time me : Int) (hst : x.st = 0) (hln : lineL x = -1) (v : Nat) (hv : v < 2 ^ 32) (hld : loadL M (x.r.getD 17 0) (x.r.getD 16 0) 4 = some v) (a b : Nat) (n : Int) (ha : a < 16) (hb16 : b < 16) (hn : -32768 ≤ n ∧ n ≤ 32767) (hr : rightB ((11 : Nat) : Int) a b ((0 : Nat) : Int) n = true) (hw : wordF 11 a b 0 n = v) (qc : (v : Int) / 67108864 = 11) (qa : (v : Int) / 4194304 % 16 = a) (qb : (v : Int) / 262144 % 16 = b) (qn : IntKind.i16.wrap ((v : Int) % 65536) = n) :
    Calls Tryd.prog 18 #[.agg x.cells.toArray, .pointer (some ⟨mb, 0, none⟩), .int .u64 time, .int .i64 me] w (RStepP B mb pv ⟨(x.reg a (addN (x.r.getD b 0) (kN n))).reg 16 (nxN x), M, 0, 0⟩ w) := by
  have R := Lib.hid (Rs.new (x := x) s)
  have LC := Lib.hid (fun W => refLine_calls x hx h8 W)
  rw [hln] at LC
  have GC := Lib.hid (fun W (h : Mm B mb pv M W) => refGet_calls x hx h (x.r.getD 16 0) 4 (getD_lt hx 16) (.inl rfl))
  rw [hld] at GC
  simp only [loadE] at GC
  have hz := zero_val
  have HZL := Lib.hid zero_ok.len
  have HX := Lib.hid hx
  have I0 := Lib.hid (info_se hx)
  have I26 := Lib.hid size26
  have XL := Lib.hid hx.len
  have ZL := Lib.hid (fun (a : Nat) (ha : a < 26) => ha)
  have G16 := Lib.hid (hx.gr (i := 16) (by decide))
  have G23 := Lib.hid hx.g23
  rw [hst] at G23
  have FC : Hid (∀ W, Calls Tryd.prog 12 #[.int .u8 11] W fun e w' => e = .returned (.int .i64 11) ∧ Below W.heap.size W w') := fun W => refFields_calls 11 (by decide) W
  have RR : Hid (∀ W, Calls Tryd.prog 27 #[.int .u8 11, .int .u8 (a : Int), .int .u8 (b : Int), .int .u8 0, .int .i16 n] W fun e w' => e = .returned (.bool true) ∧ Below W.heap.size W w') := fun W => hr ▸ refRight_calls 11 a b 0 n W
  have RW : Hid (∀ W, Calls Tryd.prog 13 #[.int .u8 11, .int .u8 (a : Int), .int .u8 (b : Int), .int .u8 0, .int .i16 n] W fun e w' => e = .returned (.int .u32 (v : Int)) ∧ Below W.heap.size W w') := fun W => hw ▸ refWord_calls 11 a b 0 n (by decide) ha hb16 (by decide) W
  clear hr hw
  have HA := Lib.hid ha
  have HB := Lib.hid hb16
  have hwk := kN_wrap n
  have KL := Lib.hid (kN_lt n)
  have hwx := nx_wrap x
  have NL := Lib.hid (nx_lt x)
  have GA := Lib.hid (hx.gr (i := a) (by omega))
  have GB := Lib.hid (hx.gr (i := b) (by omega))
  have GD := Lib.hid (hx.gr (i := 0) (by omega))
  have HVA := Lib.hid (getD_lt hx a)
  have HVB := Lib.hid (getD_lt hx b)
  have HVD := Lib.hid (getD_lt hx 0)
  have hai : (a : Int) ≤ 15 := by omega
  have hbi : (b : Int) ≤ 15 := by omega
  have hai0 : 0 ≤ (a : Int) := by omega
  have hbi0 : 0 ≤ (b : Int) := by omega
  have hai1 : (a : Int) < 16 := by omega
  have hbi1 : (b : Int) < 16 := by omega
  have hai2 : ¬ (a : Int) < 0 := by omega
  have hbi2 : ¬ (b : Int) < 0 := by omega
  have hwa := add_wrap (x.r.getD b 0) (kN n)
  have AL := Lib.hid (addN_lt (x.r.getD b 0) (kN n))
  generalize addN (x.r.getD b 0) (kN n) = ad at *
  generalize kN n = kk at *
  generalize nxN x = nx at *
  generalize x.r.getD a 0 = va at *
  generalize x.r.getD b 0 = vb at *
  generalize x.r.getD 0 0 = vd at *
  clear hln hld s hx h8 hst
  generalize x.r.getD 16 0 = pc at *
  generalize hZC : zeroSe.cells = ZC at *
  have hZC := Lib.hid hZC
  have hzs : ZC.toArray.size = 26 := by simpa using HZL.out
  have hzn : ¬ ZC.toArray = #[] := fun h => by rw [h] at hzs; simp at hzs
  generalize hXC : x.cells = XC at *
  have hXC := Lib.hid hXC
  go_enter Tryd.func18, Tryd.ntmps18
  go_upto_region 1 with (fail)
  generalize hw1 : (w.alloc (.cells _ 26)).alloc _ = w1 at *
  clear hw1 hzs hzn hz
  have c23 := R.out.s.cellAt (hXC.out ▸ G23.out)
  go_upto_region 4 with (first
    | (refine wpList_load_mid rfl 26 (.tmp 4) rfl w.heap.size 0 rfl XC _ (hXC.out ▸ range_all R.out.s) Tryd.underlying26 rfl I0.out ?_)
    | (go_at_call 17; refine (LC.out _).mono ?_; rintro e w2 ⟨rfl, b2⟩; have R2 := Lib.hid (R.out.step b2); clear b2))
  clear R LC c23
  have c16 := R2.out.s.cellAt (hXC.out ▸ G16.out)
  go_upto_region 8 with (first
    | (refine wpList_load_mid rfl 26 (.tmp 4) rfl w.heap.size 0 rfl XC _ (hXC.out ▸ range_all R2.out.s) Tryd.underlying26 rfl I0.out ?_)
    | (go_at_call 26; refine (GC.out _ R2.out.m).mono ?_; rintro e w3 ⟨rfl, b3⟩; have R3 := Lib.hid (R2.out.step b3); clear b3))
  clear R2 GC c16
  go_upto_region 18 with (go_at_call 12; refine (FC.out _).mono ?_; rintro e w4 ⟨rfl, b4⟩; have R4 := Lib.hid (R3.out.step b4); clear b4)
  clear FC R3
  go_upto_region 20 with (first
    | (go_at_call 27; refine (RR.out _).mono ?_; rintro e w5 ⟨rfl, b5⟩; have R5 := Lib.hid (R4.out.step b5); clear b5)
    | (go_at_call 13; refine (RW.out _).mono ?_; rintro e w6 ⟨rfl, b6⟩; have R6 := Lib.hid (R5.out.step b6); clear b6))
  clear R4 R5 RR RW
  have c16 := R6.out.s.cellAt (hXC.out ▸ G16.out)
  have cA := R6.out.s.cellAt (hXC.out ▸ GA.out)
  have cB := R6.out.s.cellAt (hXC.out ▸ GB.out)
  have cD := R6.out.s.cellAt (hXC.out ▸ GD.out)
  have fA := R6.out.s.unfrozen a
  have E1 := Lib.hid (R6.out.reg HX.out (a := a) (by have := HA.out; omega) ad)
  go_upto_region 103 with (fail)
  generalize World.setCell _ _ _ = w7 at *
  have OK1 := Lib.hid (show (x.reg a ad).Ok from HX.out.reg (a := a) AL.out)
  have t16 := E1.out.s.cellAt (OK1.out.gr (i := 16) (by decide))
  have tf := E1.out.s.unfrozen 16
  have E2 := Lib.hid (E1.out.reg OK1.out (a := 16) (by decide) nx)
  have OK2 := Lib.hid (OK1.out.reg (a := 16) (v := nx) NL.out)
  clear E1 OK1
  go_upto_region 104 with (fail)
  have F := Lib.hid (E2.out.fin OK2.out 0 0)
  have RA := Lib.hid (range_all E2.out.s)
  have RZ := Lib.hid E2.out.z
  rw [hZC.out] at RZ
  have I2 := Lib.hid (info_se OK2.out)
  have HO := Lib.hid (Se.one ((x.reg a ad).reg 16 nx))
  have YL := Lib.hid OK2.out.len
  generalize hw9 : World.setCell _ _ _ = w9 at *
  clear hw9
  clear E2
  generalize ((x.reg a ad).reg 16 nx).cells = YC at *
  go_wp2_with (first
    | (refine wpList_load_mid rfl 26 (.tmp 4) rfl w.heap.size 0 rfl YC _ RA.out Tryd.underlying26 rfl I2.out ?_)
    | (refine wpList_store_mid rfl 26 (.tmp 8) (.tmp 410) rfl (w.heap.size + 1) 0 YC.toArray rfl rfl (there_of_blk RZ.out ?s1) ?s2 ?s3 ?_))
  case s1 => have h1 := HZL.out; have h2 := YL.out; simp; omega
  case s2 => simpa using I2.out
  case s3 => first | exact HO.out | exact all_oneCell_toArray HO.out
  refine bodyPost_ret (v := .tuple #[.agg YC.toArray, .int .u8 0, .int .u64 0]) (results_ctt Tryd.results18 _ _ (w.heap.size + 1) YC _ rfl F.out.2 Tryd.underlying26 rfl I2.out) rfl F.out.1
end Go.Proofs.YtjlodddlbgpcdaaDoor.Walks
