/- Walks through the functions of the statement, and the statement over them: each contract says what the call answers and that nothing else changes. -/
import Derived.Test.YtjlodddlbgpcdaaDoorProg
import Derived.Test.YtjlodddlbgpcdaaDoorBits
import Derived.Test.YtjlodddlbgpcdaaDoorHeap
import Derived.Test.YtjlodddlbgpcdaaDoorAid
import Derived.Test.YtjlodddlbgpcdaaDoorArr
import Derived.Test.YtjlodddlbgpcdaaDoorEql
import Derived.Test.YtjlodddlbgpcdaaDoorWalkBase
import Derived.Test.YtjlodddlbgpcdaaDoorWalkCode
import Derived.Test.YtjlodddlbgpcdaaDoorWalkSeat
import Derived.Test.YtjlodddlbgpcdaaDoorWalkRef
import Derived.Test.YtjlodddlbgpcdaaDoorWalkRefR
import Derived.Test.YtjlodddlbgpcdaaDoorWalkBus
import Derived.Test.YtjlodddlbgpcdaaDoorWalkBus2
import Derived.Test.YtjlodddlbgpcdaaDoorWalkRefP
import Derived.Test.YtjlodddlbgpcdaaDoorWalkRefG
import Derived.Test.YtjlodddlbgpcdaaDoorWalkRefL
import Derived.Test.YtjlodddlbgpcdaaDoorWalkDo
import Derived.Test.YtjlodddlbgpcdaaDoorWalkDo2
import Derived.Test.YtjlodddlbgpcdaaDoorWalkStep
import Derived.Test.YtjlodddlbgpcdaaDoorWalkSome
import Derived.Test.YtjlodddlbgpcdaaDoorWalkAwake
import Derived.Test.YtjlodddlbgpcdaaDoorWalkNil
import Derived.Test.YtjlodddlbgpcdaaDoorWalkPl
import Derived.Test.YtjlodddlbgpcdaaDoorWalkRs0
import Derived.Lib.Hide
import Derived.WalkKit
import Derived.WalkSpells
import Derived.WalkLawsBesides
import Derived.Deep.QuietTactic
import Derived.BigQuiet
import Derived.Deep.RegionHeld3
import Derived.Deep.DeepCutAuto
import Derived.Deep.CutBlock
import Derived.Lib.SlBytesConst
import Derived.StillTailTactics
import Derived.RegionTactic
import Derived.Deep.RegionLaw
import Derived.Laws.BytesString
import Derived.Laws.MakeOwn
import Derived.Deep.AppendLies
import Derived.Laws.CopyOwn
import Derived.Maps.AppendAt
import Derived.Deep.Upon
import Derived.Deep.AppendSrc
import Derived.Shelf.Abstract
import Derived.Shelf.Spec.TrailingZeros
namespace Go.Proofs.YtjlodddlbgpcdaaDoor.Walks
set_option linter.unusedVariables false
set_option linter.unusedSimpArgs false
open Go.RowKit Go.Proofs.YtjlodddlbgpcdaaDoor.Bits Go.Proofs.YtjlodddlbgpcdaaDoor.Heap Go.Proofs.YtjlodddlbgpcdaaDoor.Aid Go.Proofs.YtjlodddlbgpcdaaDoor.Arr Go.Proofs.YtjlodddlbgpcdaaDoor.Eql

set_option maxRecDepth 8000 in
set_option maxHeartbeats 8000000 in
theorem rs_hvc {B mb : Nat} {pv : Nat → Value} {M : Me} {w : World} (x : Se) (hx : x.Ok) (h8 : x.Ok8) (s : Mm B mb pv M w) (time me : Int) (hst : x.st = 0) (hln : lineL x = -1) (v : Nat) (hv : v < 2 ^ 32) (hld : loadL M (x.r.getD 17 0) (x.r.getD 16 0) 4 = some v) (a b : Nat) (n : Int) (ha : a < 16) (hb16 : b < 16) (hn : -32768 ≤ n ∧ n ≤ 32767) (hr : rightB ((20 : Nat) : Int) a b ((0 : Nat) : Int) n = true) (hw : wordF 20 a b 0 n = v) (qc : (v : Int) / 67108864 = 20) (qa : (v : Int) / 4194304 % 16 = a) (qb : (v : Int) / 262144 % 16 = b) (qn : IntKind.i16.wrap ((v : Int) % 65536) = n) :
    Calls Tryd.prog 18 #[.agg x.cells.toArray, .pointer (some ⟨mb, 0, none⟩), .int .u64 time, .int .i64 me] w (RStepP B mb pv ⟨x.reg 16 (nxN x), M, 2, kN n⟩ w) := by
  have R := Lib.hid (Rs.new (x := x) s)
  have LC := Lib.hid (fun W => refLine_calls x hx h8 W)
  rw [hln] at LC
  have GC := Lib.hid (fun W (h : Mm B mb pv M W) => refGet_calls x hx h (x.r.getD 16 0) 4 (getD_lt hx 16) (.inl rfl))
  rw [hld] at GC
  simp only [loadE] at GC
  have hz := zero_val
  have HZL := Lib.hid zero_ok.len
  have HX := Lib.hid hx
  have I0 := Lib.hid (info_se hx)
  have I26 := Lib.hid size26
  have XL := Lib.hid hx.len
  have ZL := Lib.hid (fun (a : Nat) (ha : a < 26) => ha)
  have G16 := Lib.hid (hx.gr (i := 16) (by decide))
  have G23 := Lib.hid hx.g23
  rw [hst] at G23
  have FC : Hid (∀ W, Calls Tryd.prog 12 #[.int .u8 20] W fun e w' => e = .returned (.int .i64 8) ∧ Below W.heap.size W w') := fun W => refFields_calls 20 (by decide) W
  have RR : Hid (∀ W, Calls Tryd.prog 27 #[.int .u8 20, .int .u8 (a : Int), .int .u8 (b : Int), .int .u8 0, .int .i16 n] W fun e w' => e = .returned (.bool true) ∧ Below W.heap.size W w') := fun W => hr ▸ refRight_calls 20 a b 0 n W
  have RW : Hid (∀ W, Calls Tryd.prog 13 #[.int .u8 20, .int .u8 (a : Int), .int .u8 (b : Int), .int .u8 0, .int .i16 n] W fun e w' => e = .returned (.int .u32 (v : Int)) ∧ Below W.heap.size W w') := fun W => hw ▸ refWord_calls 20 a b 0 n (by decide) ha hb16 (by decide) W
  clear hr hw
  have HA := Lib.hid ha
  have HB := Lib.hid hb16
  have hwk := kN_wrap n
  have KL := Lib.hid (kN_lt n)
  have hwx := nx_wrap x
  have NL := Lib.hid (nx_lt x)
  have GA := Lib.hid (hx.gr (i := a) (by omega))
  have GB := Lib.hid (hx.gr (i := b) (by omega))
  have GD := Lib.hid (hx.gr (i := 0) (by omega))
  have HVA := Lib.hid (getD_lt hx a)
  have HVB := Lib.hid (getD_lt hx b)
  have HVD := Lib.hid (getD_lt hx 0)
  have hai : (a : Int) ≤ 15 := by omega
  have hbi : (b : Int) ≤ 15 := by omega
  have hai0 : 0 ≤ (a : Int) := by omega
  have hbi0 : 0 ≤ (b : Int) := by omega
  have hai1 : (a : Int) < 16 := by omega
  have hbi1 : (b : Int) < 16 := by omega
  have hai2 : ¬ (a : Int) < 0 := by omega
  have hbi2 : ¬ (b : Int) < 0 := by omega
  generalize kN n = kk at *
  generalize nxN x = nx at *
  generalize x.r.getD a 0 = va at *
  generalize x.r.getD b 0 = vb at *
  generalize x.r.getD 0 0 = vd at *
  clear hln hld s hx h8 hst
  generalize x.r.getD 16 0 = pc at *
  generalize hZC : zeroSe.cells = ZC at *
  have hZC := Lib.hid hZC
  have hzs : ZC.toArray.size = 26 := by simpa using HZL.out
  have hzn : ¬ ZC.toArray = #[] := fun h => by rw [h] at hzs; simp at hzs
  generalize hXC : x.cells = XC at *
  have hXC := Lib.hid hXC
  go_enter Tryd.func18, Tryd.ntmps18
  go_upto_region 1 with (fail)
  generalize hw1 : (w.alloc (.cells _ 26)).alloc _ = w1 at *
  clear hw1 hzs hzn hz
  have c23 := R.out.s.cellAt (hXC.out ▸ G23.out)
  go_upto_region 4 with (first
    | (refine wpList_load_mid rfl 26 (.tmp 4) rfl w.heap.size 0 rfl XC _ (hXC.out ▸ range_all R.out.s) Tryd.underlying26 rfl I0.out ?_)
    | (go_at_call 17; refine (LC.out _).mono ?_; rintro e w2 ⟨rfl, b2⟩; have R2 := Lib.hid (R.out.step b2); clear b2))
  clear R LC c23
  have c16 := R2.out.s.cellAt (hXC.out ▸ G16.out)
  go_upto_region 8 with (first
    | (refine wpList_load_mid rfl 26 (.tmp 4) rfl w.heap.size 0 rfl XC _ (hXC.out ▸ range_all R2.out.s) Tryd.underlying26 rfl I0.out ?_)
    | (go_at_call 26; refine (GC.out _ R2.out.m).mono ?_; rintro e w3 ⟨rfl, b3⟩; have R3 := Lib.hid (R2.out.step b3); clear b3))
  clear R2 GC c16
  go_upto_region 18 with (go_at_call 12; refine (FC.out _).mono ?_; rintro e w4 ⟨rfl, b4⟩; have R4 := Lib.hid (R3.out.step b4); clear b4)
  clear FC R3
  go_upto_region 20 with (first
    | (go_at_call 27; refine (RR.out _).mono ?_; rintro e w5 ⟨rfl, b5⟩; have R5 := Lib.hid (R4.out.step b5); clear b5)
    | (go_at_call 13; refine (RW.out _).mono ?_; rintro e w6 ⟨rfl, b6⟩; have R6 := Lib.hid (R5.out.step b6); clear b6))
  clear R4 R5 RR RW
  have c16 := R6.out.s.cellAt (hXC.out ▸ G16.out)
  have cA := R6.out.s.cellAt (hXC.out ▸ GA.out)
  have cB := R6.out.s.cellAt (hXC.out ▸ GB.out)
  have cD := R6.out.s.cellAt (hXC.out ▸ GD.out)
  have f16 := R6.out.s.unfrozen 16
  have E2 := Lib.hid (R6.out.reg HX.out (a := 16) (by decide) nx)
  have OK2 := Lib.hid (HX.out.reg (a := 16) (v := nx) NL.out)
  go_upto_region 92 with (fail)
  have F := Lib.hid (E2.out.fin OK2.out 2 kk)
  have RA := Lib.hid (range_all E2.out.s)
  have RZ := Lib.hid E2.out.z
  rw [hZC.out] at RZ
  have I2 := Lib.hid (info_se OK2.out)
  have HO := Lib.hid (Se.one (x.reg 16 nx))
  have YL := Lib.hid OK2.out.len
  generalize hw9 : World.setCell _ _ _ = w9 at *
  clear hw9
  clear E2
  generalize (x.reg 16 nx).cells = YC at *
  go_wp2_with (first
    | (refine wpList_load_mid rfl 26 (.tmp 4) rfl w.heap.size 0 rfl YC _ RA.out Tryd.underlying26 rfl I2.out ?_)
    | (refine wpList_store_mid rfl 26 (.tmp 8) (.tmp 386) rfl (w.heap.size + 1) 0 YC.toArray rfl rfl (there_of_blk RZ.out ?s1) ?s2 ?s3 ?_))
  case s1 => have h1 := HZL.out; have h2 := YL.out; simp; omega
  case s2 => simpa using I2.out
  case s3 => first | exact HO.out | exact all_oneCell_toArray HO.out
  refine bodyPost_ret (v := .tuple #[.agg YC.toArray, .int .u8 2, .int .u64 (kk : Int)]) (results_ctt Tryd.results18 _ _ (w.heap.size + 1) YC _ rfl F.out.2 Tryd.underlying26 rfl I2.out) rfl F.out.1
set_option maxRecDepth 8000 in
set_option maxHeartbeats 8000000 in
theorem rs_wfia {B mb : Nat} {pv : Nat → Value} {M : Me} {w : World} (x : Se) (hx : x.Ok) (h8 : x.Ok8) (s : Mm B mb pv M w) (time me : Int) (hst : x.st = 0) (hln : lineL x = -1) (v : Nat) (hv : v < 2 ^ 32) (hld : loadL M (x.r.getD 17 0) (x.r.getD 16 0) 4 = some v) (a b : Nat) (n : Int) (ha : a < 16) (hb16 : b < 16) (hn : -32768 ≤ n ∧ n ≤ 32767) (hr : rightB ((21 : Nat) : Int) a b ((0 : Nat) : Int) n = true) (hw : wordF 21 a b 0 n = v) (qc : (v : Int) / 67108864 = 21) (qa : (v : Int) / 4194304 % 16 = a) (qb : (v : Int) / 262144 % 16 = b) (qn : IntKind.i16.wrap ((v : Int) % 65536) = n) (hz : x.pe &&& x.ma = 0) :
    Calls Tryd.prog 18 #[.agg x.cells.toArray, .pointer (some ⟨mb, 0, none⟩), .int .u64 time, .int .i64 me] w (RStepP B mb pv ⟨{ x.reg 16 (nxN x) with st := 1 }, M, 3, 0⟩ w) := by
  have R := Lib.hid (Rs.new (x := x) s)
  have LC := Lib.hid (fun W => refLine_calls x hx h8 W)
  rw [hln] at LC
  have GC := Lib.hid (fun W (h : Mm B mb pv M W) => refGet_calls x hx h (x.r.getD 16 0) 4 (getD_lt hx 16) (.inl rfl))
  rw [hld] at GC
  simp only [loadE] at GC
  have hz := zero_val
  have HZL := Lib.hid zero_ok.len
  have HX := Lib.hid hx
  have I0 := Lib.hid (info_se hx)
  have I26 := Lib.hid size26
  have XL := Lib.hid hx.len
  have ZL := Lib.hid (fun (a : Nat) (ha : a < 26) => ha)
  have G16 := Lib.hid (hx.gr (i := 16) (by decide))
  have G23 := Lib.hid hx.g23
  rw [hst] at G23
  have FC : Hid (∀ W, Calls Tryd.prog 12 #[.int .u8 21] W fun e w' => e = .returned (.int .i64 0) ∧ Below W.heap.size W w') := fun W => refFields_calls 21 (by decide) W
  have RR : Hid (∀ W, Calls Tryd.prog 27 #[.int .u8 21, .int .u8 (a : Int), .int .u8 (b : Int), .int .u8 0, .int .i16 n] W fun e w' => e = .returned (.bool true) ∧ Below W.heap.size W w') := fun W => hr ▸ refRight_calls 21 a b 0 n W
  have RW : Hid (∀ W, Calls Tryd.prog 13 #[.int .u8 21, .int .u8 (a : Int), .int .u8 (b : Int), .int .u8 0, .int .i16 n] W fun e w' => e = .returned (.int .u32 (v : Int)) ∧ Below W.heap.size W w') := fun W => hw ▸ refWord_calls 21 a b 0 n (by decide) ha hb16 (by decide) W
  clear hr hw
  have HA := Lib.hid ha
  have HB := Lib.hid hb16
  have hwk := kN_wrap n
  have KL := Lib.hid (kN_lt n)
  have hwx := nx_wrap x
  have NL := Lib.hid (nx_lt x)
  have GA := Lib.hid (hx.gr (i := a) (by omega))
  have GB := Lib.hid (hx.gr (i := b) (by omega))
  have GD := Lib.hid (hx.gr (i := 0) (by omega))
  have HVA := Lib.hid (getD_lt hx a)
  have HVB := Lib.hid (getD_lt hx b)
  have HVD := Lib.hid (getD_lt hx 0)
  have hai : (a : Int) ≤ 15 := by omega
  have hbi : (b : Int) ≤ 15 := by omega
  have hai0 : 0 ≤ (a : Int) := by omega
  have hbi0 : 0 ≤ (b : Int) := by omega
  have hai1 : (a : Int) < 16 := by omega
  have hbi1 : (b : Int) < 16 := by omega
  have hai2 : ¬ (a : Int) < 0 := by omega
  have hbi2 : ¬ (b : Int) < 0 := by omega
  have HAND := Lib.hid (show bits .and .u32 (x.pe : Int) (x.ma : Int) = ((x.pe &&& x.ma : Nat) : Int) from bits_and rfl hx.p hx.m)
  have G24 := Lib.hid hx.g24
  have G25 := Lib.hid hx.g25
  generalize kN n = kk at *
  generalize nxN x = nx at *
  generalize x.r.getD a 0 = va at *
  generalize x.r.getD b 0 = vb at *
  generalize x.r.getD 0 0 = vd at *
  clear hln hld s hx h8 hst
  generalize x.r.getD 16 0 = pc at *
  generalize hZC : zeroSe.cells = ZC at *
  have hZC := Lib.hid hZC
  have hzs : ZC.toArray.size = 26 := by simpa using HZL.out
  have hzn : ¬ ZC.toArray = #[] := fun h => by rw [h] at hzs; simp at hzs
  generalize hXC : x.cells = XC at *
  have hXC := Lib.hid hXC
  go_enter Tryd.func18, Tryd.ntmps18
  go_upto_region 1 with (fail)
  generalize hw1 : (w.alloc (.cells _ 26)).alloc _ = w1 at *
  clear hw1 hzs hzn hz
  have c23 := R.out.s.cellAt (hXC.out ▸ G23.out)
  go_upto_region 4 with (first
    | (refine wpList_load_mid rfl 26 (.tmp 4) rfl w.heap.size 0 rfl XC _ (hXC.out ▸ range_all R.out.s) Tryd.underlying26 rfl I0.out ?_)
    | (go_at_call 17; refine (LC.out _).mono ?_; rintro e w2 ⟨rfl, b2⟩; have R2 := Lib.hid (R.out.step b2); clear b2))
  clear R LC c23
  have c16 := R2.out.s.cellAt (hXC.out ▸ G16.out)
  go_upto_region 8 with (first
    | (refine wpList_load_mid rfl 26 (.tmp 4) rfl w.heap.size 0 rfl XC _ (hXC.out ▸ range_all R2.out.s) Tryd.underlying26 rfl I0.out ?_)
    | (go_at_call 26; refine (GC.out _ R2.out.m).mono ?_; rintro e w3 ⟨rfl, b3⟩; have R3 := Lib.hid (R2.out.step b3); clear b3))
  clear R2 GC c16
  go_upto_region 18 with (go_at_call 12; refine (FC.out _).mono ?_; rintro e w4 ⟨rfl, b4⟩; have R4 := Lib.hid (R3.out.step b4); clear b4)
  clear FC R3
  go_upto_region 20 with (first
    | (go_at_call 27; refine (RR.out _).mono ?_; rintro e w5 ⟨rfl, b5⟩; have R5 := Lib.hid (R4.out.step b5); clear b5)
    | (go_at_call 13; refine (RW.out _).mono ?_; rintro e w6 ⟨rfl, b6⟩; have R6 := Lib.hid (R5.out.step b6); clear b6))
  clear R4 R5 RR RW
  have c16 := R6.out.s.cellAt (hXC.out ▸ G16.out)
  have cA := R6.out.s.cellAt (hXC.out ▸ GA.out)
  have cB := R6.out.s.cellAt (hXC.out ▸ GB.out)
  have cD := R6.out.s.cellAt (hXC.out ▸ GD.out)
  have f16 := R6.out.s.unfrozen 16
  have E1 := Lib.hid (R6.out.reg HX.out (a := 16) (by decide) nx)
  have OK1 := Lib.hid (HX.out.reg (a := 16) (v := nx) NL.out)
  go_upto_region 95 with (fail)
  clear c16 cA cB cD
  generalize World.setCell _ _ _ = w7 at *
  have t24 := E1.out.s.cellAt OK1.out.g24
  have t25 := E1.out.s.cellAt OK1.out.g25
  rw [show (x.reg 16 nx).pe = x.pe from rfl] at t24
  rw [show (x.reg 16 nx).ma = x.ma from rfl] at t25
  have hand := HAND.out
  rw [hz] at hand
  have hand2 : bits .and .u32 (x.pe : Int) (x.ma : Int) = 0 := hand
  clear hand
  clear HAND
  generalize (x.pe : Int) = pe at *
  generalize (x.ma : Int) = ma at *
  have t23 := E1.out.s.cellAt OK1.out.g23
  have tf23 := E1.out.s.unfrozen 23
  have E2 := Lib.hid (E1.out.set (x' := { x.reg 16 nx with st := 1 }) 23 (.int .u8 1) (OK1.out.s23 1))
  have OK2 := Lib.hid (show ({ x.reg 16 nx with st := 1 } : Se).Ok from ⟨OK1.out.l, OK1.out.w, by show 1 < 256; omega, OK1.out.p, OK1.out.m⟩)
  clear E1 OK1
  go_upto_region 97 with (fail)
  have F := Lib.hid (E2.out.fin OK2.out 3 0)
  have RA := Lib.hid (range_all E2.out.s)
  have RZ := Lib.hid E2.out.z
  rw [hZC.out] at RZ
  have I2 := Lib.hid (info_se OK2.out)
  have HO := Lib.hid (Se.one ({ x.reg 16 nx with st := 1 } : Se))
  have YL := Lib.hid OK2.out.len
  generalize hw9 : World.setCell _ _ _ = w9 at *
  clear hw9
  clear E2
  generalize ({ x.reg 16 nx with st := 1 } : Se).cells = YC at *
  go_wp2_with (first
    | (refine wpList_load_mid rfl 26 (.tmp 4) rfl w.heap.size 0 rfl YC _ RA.out Tryd.underlying26 rfl I2.out ?_)
    | (refine wpList_store_mid rfl 26 (.tmp 8) (.tmp 399) rfl (w.heap.size + 1) 0 YC.toArray rfl rfl (there_of_blk RZ.out ?s1) ?s2 ?s3 ?_))
  case s1 => have h1 := HZL.out; have h2 := YL.out; simp; omega
  case s2 => simpa using I2.out
  case s3 => first | exact HO.out | exact all_oneCell_toArray HO.out
  refine bodyPost_ret (v := .tuple #[.agg YC.toArray, .int .u8 3, .int .u64 0]) (results_ctt Tryd.results18 _ _ (w.heap.size + 1) YC _ rfl F.out.2 Tryd.underlying26 rfl I2.out) rfl F.out.1
set_option maxRecDepth 8000 in
set_option maxHeartbeats 8000000 in
theorem rs_wfib {B mb : Nat} {pv : Nat → Value} {M : Me} {w : World} (x : Se) (hx : x.Ok) (h8 : x.Ok8) (s : Mm B mb pv M w) (time me : Int) (hst : x.st = 0) (hln : lineL x = -1) (v : Nat) (hv : v < 2 ^ 32) (hld : loadL M (x.r.getD 17 0) (x.r.getD 16 0) 4 = some v) (a b : Nat) (n : Int) (ha : a < 16) (hb16 : b < 16) (hn : -32768 ≤ n ∧ n ≤ 32767) (hr : rightB ((21 : Nat) : Int) a b ((0 : Nat) : Int) n = true) (hw : wordF 21 a b 0 n = v) (qc : (v : Int) / 67108864 = 21) (qa : (v : Int) / 4194304 % 16 = a) (qb : (v : Int) / 262144 % 16 = b) (qn : IntKind.i16.wrap ((v : Int) % 65536) = n) (hz : x.pe &&& x.ma ≠ 0) :
    Calls Tryd.prog 18 #[.agg x.cells.toArray, .pointer (some ⟨mb, 0, none⟩), .int .u64 time, .int .i64 me] w (RStepP B mb pv ⟨x.reg 16 (nxN x), M, 0, 0⟩ w) := by
  have R := Lib.hid (Rs.new (x := x) s)
  have LC := Lib.hid (fun W => refLine_calls x hx h8 W)
  rw [hln] at LC
  have GC := Lib.hid (fun W (h : Mm B mb pv M W) => refGet_calls x hx h (x.r.getD 16 0) 4 (getD_lt hx 16) (.inl rfl))
  rw [hld] at GC
  simp only [loadE] at GC
  have hz := zero_val
  have HZL := Lib.hid zero_ok.len
  have HX := Lib.hid hx
  have I0 := Lib.hid (info_se hx)
  have I26 := Lib.hid size26
  have XL := Lib.hid hx.len
  have ZL := Lib.hid (fun (a : Nat) (ha : a < 26) => ha)
  have G16 := Lib.hid (hx.gr (i := 16) (by decide))
  have G23 := Lib.hid hx.g23
  rw [hst] at G23
  have FC : Hid (∀ W, Calls Tryd.prog 12 #[.int .u8 21] W fun e w' => e = .returned (.int .i64 0) ∧ Below W.heap.size W w') := fun W => refFields_calls 21 (by decide) W
  have RR : Hid (∀ W, Calls Tryd.prog 27 #[.int .u8 21, .int .u8 (a : Int), .int .u8 (b : Int), .int .u8 0, .int .i16 n] W fun e w' => e = .returned (.bool true) ∧ Below W.heap.size W w') := fun W => hr ▸ refRight_calls 21 a b 0 n W
  have RW : Hid (∀ W, Calls Tryd.prog 13 #[.int .u8 21, .int .u8 (a : Int), .int .u8 (b : Int), .int .u8 0, .int .i16 n] W fun e w' => e = .returned (.int .u32 (v : Int)) ∧ Below W.heap.size W w') := fun W => hw ▸ refWord_calls 21 a b 0 n (by decide) ha hb16 (by decide) W
  clear hr hw
  have HA := Lib.hid ha
  have HB := Lib.hid hb16
  have hwk := kN_wrap n
  have KL := Lib.hid (kN_lt n)
  have hwx := nx_wrap x
  have NL := Lib.hid (nx_lt x)
  have GA := Lib.hid (hx.gr (i := a) (by omega))
  have GB := Lib.hid (hx.gr (i := b) (by omega))
  have GD := Lib.hid (hx.gr (i := 0) (by omega))
  have HVA := Lib.hid (getD_lt hx a)
  have HVB := Lib.hid (getD_lt hx b)
  have HVD := Lib.hid (getD_lt hx 0)
  have hai : (a : Int) ≤ 15 := by omega
  have hbi : (b : Int) ≤ 15 := by omega
  have hai0 : 0 ≤ (a : Int) := by omega
  have hbi0 : 0 ≤ (b : Int) := by omega
  have hai1 : (a : Int) < 16 := by omega
  have hbi1 : (b : Int) < 16 := by omega
  have hai2 : ¬ (a : Int) < 0 := by omega
  have hbi2 : ¬ (b : Int) < 0 := by omega
  have HAND := Lib.hid (show bits .and .u32 (x.pe : Int) (x.ma : Int) = ((x.pe &&& x.ma : Nat) : Int) from bits_and rfl hx.p hx.m)
  have G24 := Lib.hid hx.g24
  have G25 := Lib.hid hx.g25
  generalize kN n = kk at *
  generalize nxN x = nx at *
  generalize x.r.getD a 0 = va at *
  generalize x.r.getD b 0 = vb at *
  generalize x.r.getD 0 0 = vd at *
  clear hln hld s hx h8 hst
  generalize x.r.getD 16 0 = pc at *
  generalize hZC : zeroSe.cells = ZC at *
  have hZC := Lib.hid hZC
  have hzs : ZC.toArray.size = 26 := by simpa using HZL.out
  have hzn : ¬ ZC.toArray = #[] := fun h => by rw [h] at hzs; simp at hzs
  generalize hXC : x.cells = XC at *
  have hXC := Lib.hid hXC
  go_enter Tryd.func18, Tryd.ntmps18
  go_upto_region 1 with (fail)
  generalize hw1 : (w.alloc (.cells _ 26)).alloc _ = w1 at *
  clear hw1 hzs hzn hz
  have c23 := R.out.s.cellAt (hXC.out ▸ G23.out)
  go_upto_region 4 with (first
    | (refine wpList_load_mid rfl 26 (.tmp 4) rfl w.heap.size 0 rfl XC _ (hXC.out ▸ range_all R.out.s) Tryd.underlying26 rfl I0.out ?_)
    | (go_at_call 17; refine (LC.out _).mono ?_; rintro e w2 ⟨rfl, b2⟩; have R2 := Lib.hid (R.out.step b2); clear b2))
  clear R LC c23
  have c16 := R2.out.s.cellAt (hXC.out ▸ G16.out)
  go_upto_region 8 with (first
    | (refine wpList_load_mid rfl 26 (.tmp 4) rfl w.heap.size 0 rfl XC _ (hXC.out ▸ range_all R2.out.s) Tryd.underlying26 rfl I0.out ?_)
    | (go_at_call 26; refine (GC.out _ R2.out.m).mono ?_; rintro e w3 ⟨rfl, b3⟩; have R3 := Lib.hid (R2.out.step b3); clear b3))
  clear R2 GC c16
  go_upto_region 18 with (go_at_call 12; refine (FC.out _).mono ?_; rintro e w4 ⟨rfl, b4⟩; have R4 := Lib.hid (R3.out.step b4); clear b4)
  clear FC R3
  go_upto_region 20 with (first
    | (go_at_call 27; refine (RR.out _).mono ?_; rintro e w5 ⟨rfl, b5⟩; have R5 := Lib.hid (R4.out.step b5); clear b5)
    | (go_at_call 13; refine (RW.out _).mono ?_; rintro e w6 ⟨rfl, b6⟩; have R6 := Lib.hid (R5.out.step b6); clear b6))
  clear R4 R5 RR RW
  have c16 := R6.out.s.cellAt (hXC.out ▸ G16.out)
  have cA := R6.out.s.cellAt (hXC.out ▸ GA.out)
  have cB := R6.out.s.cellAt (hXC.out ▸ GB.out)
  have cD := R6.out.s.cellAt (hXC.out ▸ GD.out)
  have f16 := R6.out.s.unfrozen 16
  have E1 := Lib.hid (R6.out.reg HX.out (a := 16) (by decide) nx)
  have OK1 := Lib.hid (HX.out.reg (a := 16) (v := nx) NL.out)
  go_upto_region 95 with (fail)
  clear c16 cA cB cD
  generalize World.setCell _ _ _ = w7 at *
  have t24 := E1.out.s.cellAt OK1.out.g24
  have t25 := E1.out.s.cellAt OK1.out.g25
  rw [show (x.reg 16 nx).pe = x.pe from rfl] at t24
  rw [show (x.reg 16 nx).ma = x.ma from rfl] at t25
  have hand := HAND.out
  have hand2 : (bits .and .u32 (x.pe : Int) (x.ma : Int) == 0) = false := by rw [hand]; simp; omega
  clear hand
  clear HAND
  generalize (x.pe : Int) = pe at *
  generalize (x.ma : Int) = ma at *
  have E2 := E1
  have OK2 := OK1
  clear E1 OK1
  go_upto_region 98 with (fail)
  have F := Lib.hid (E2.out.fin OK2.out 0 0)
  have RA := Lib.hid (range_all E2.out.s)
  have RZ := Lib.hid E2.out.z
  rw [hZC.out] at RZ
  have I2 := Lib.hid (info_se OK2.out)
  have HO := Lib.hid (Se.one (x.reg 16 nx))
  have YL := Lib.hid OK2.out.len
  clear E2
  generalize (x.reg 16 nx).cells = YC at *
  go_wp2_with (first
    | (refine wpList_load_mid rfl 26 (.tmp 4) rfl w.heap.size 0 rfl YC _ RA.out Tryd.underlying26 rfl I2.out ?_)
    | (refine wpList_store_mid rfl 26 (.tmp 8) (.tmp 400) rfl (w.heap.size + 1) 0 YC.toArray rfl rfl (there_of_blk RZ.out ?s1) ?s2 ?s3 ?_))
  case s1 => have h1 := HZL.out; have h2 := YL.out; simp; omega
  case s2 => simpa using I2.out
  case s3 => first | exact HO.out | exact all_oneCell_toArray HO.out
  refine bodyPost_ret (v := .tuple #[.agg YC.toArray, .int .u8 0, .int .u64 0]) (results_ctt Tryd.results18 _ _ (w.heap.size + 1) YC _ rfl F.out.2 Tryd.underlying26 rfl I2.out) rfl F.out.1
set_option maxRecDepth 8000 in
set_option maxHeartbeats 8000000 in
theorem rs_ret {B mb : Nat} {pv : Nat → Value} {M : Me} {w : World} (x : Se) (hx : x.Ok) (h8 : x.Ok8) (s : Mm B mb pv M w) (time me : Int) (hst : x.st = 0) (hln : lineL x = -1) (v : Nat) (hv : v < 2 ^ 32) (hld : loadL M (x.r.getD 17 0) (x.r.getD 16 0) 4 = some v) (a b : Nat) (n : Int) (ha : a < 16) (hb16 : b < 16) (hn : -32768 ≤ n ∧ n ≤ 32767) (hr : rightB ((22 : Nat) : Int) a b ((0 : Nat) : Int) n = true) (hw : wordF 22 a b 0 n = v) (qc : (v : Int) / 67108864 = 22) (qa : (v : Int) / 4194304 % 16 = a) (qb : (v : Int) / 262144 % 16 = b) (qn : IntKind.i16.wrap ((v : Int) % 65536) = n) :
    Calls Tryd.prog 18 #[.agg x.cells.toArray, .pointer (some ⟨mb, 0, none⟩), .int .u64 time, .int .i64 me] w (RStepP B mb pv ⟨backS x, M, 0, 0⟩ w) := by
  have R := Lib.hid (Rs.new (x := x) s)
  have LC := Lib.hid (fun W => refLine_calls x hx h8 W)
  rw [hln] at LC
  have GC := Lib.hid (fun W (h : Mm B mb pv M W) => refGet_calls x hx h (x.r.getD 16 0) 4 (getD_lt hx 16) (.inl rfl))
  rw [hld] at GC
  simp only [loadE] at GC
  have hz := zero_val
  have HZL := Lib.hid zero_ok.len
  have HX := Lib.hid hx
  have I0 := Lib.hid (info_se hx)
  have I26 := Lib.hid size26
  have XL := Lib.hid hx.len
  have ZL := Lib.hid (fun (a : Nat) (ha : a < 26) => ha)
  have G16 := Lib.hid (hx.gr (i := 16) (by decide))
  have G23 := Lib.hid hx.g23
  rw [hst] at G23
  have FC : Hid (∀ W, Calls Tryd.prog 12 #[.int .u8 22] W fun e w' => e = .returned (.int .i64 0) ∧ Below W.heap.size W w') := fun W => refFields_calls 22 (by decide) W
  have RR : Hid (∀ W, Calls Tryd.prog 27 #[.int .u8 22, .int .u8 (a : Int), .int .u8 (b : Int), .int .u8 0, .int .i16 n] W fun e w' => e = .returned (.bool true) ∧ Below W.heap.size W w') := fun W => hr ▸ refRight_calls 22 a b 0 n W
  have RW : Hid (∀ W, Calls Tryd.prog 13 #[.int .u8 22, .int .u8 (a : Int), .int .u8 (b : Int), .int .u8 0, .int .i16 n] W fun e w' => e = .returned (.int .u32 (v : Int)) ∧ Below W.heap.size W w') := fun W => hw ▸ refWord_calls 22 a b 0 n (by decide) ha hb16 (by decide) W
  clear hr hw
  have HA := Lib.hid ha
  have HB := Lib.hid hb16
  have hwk := kN_wrap n
  have KL := Lib.hid (kN_lt n)
  have hwx := nx_wrap x
  have NL := Lib.hid (nx_lt x)
  have GA := Lib.hid (hx.gr (i := a) (by omega))
  have GB := Lib.hid (hx.gr (i := b) (by omega))
  have GD := Lib.hid (hx.gr (i := 0) (by omega))
  have HVA := Lib.hid (getD_lt hx a)
  have HVB := Lib.hid (getD_lt hx b)
  have HVD := Lib.hid (getD_lt hx 0)
  have hai : (a : Int) ≤ 15 := by omega
  have hbi : (b : Int) ≤ 15 := by omega
  have hai0 : 0 ≤ (a : Int) := by omega
  have hbi0 : 0 ≤ (b : Int) := by omega
  have hai1 : (a : Int) < 16 := by omega
  have hbi1 : (b : Int) < 16 := by omega
  have hai2 : ¬ (a : Int) < 0 := by omega
  have hbi2 : ¬ (b : Int) < 0 := by omega
  have G19 := Lib.hid (hx.gr (i := 19) (by decide))
  have HV19 := Lib.hid (getD_lt hx 19)
  have HBS := Lib.hid (show backS x = { x.reg 16 (x.r.getD 19 0) with op := true } from rfl)
  generalize backS x = y at *
  generalize x.r.getD 19 0 = ep at *
  generalize kN n = kk at *
  generalize nxN x = nx at *
  generalize x.r.getD a 0 = va at *
  generalize x.r.getD b 0 = vb at *
  generalize x.r.getD 0 0 = vd at *
  clear hln hld s hx h8 hst
  generalize x.r.getD 16 0 = pc at *
  generalize hZC : zeroSe.cells = ZC at *
  have hZC := Lib.hid hZC
  have hzs : ZC.toArray.size = 26 := by simpa using HZL.out
  have hzn : ¬ ZC.toArray = #[] := fun h => by rw [h] at hzs; simp at hzs
  generalize hXC : x.cells = XC at *
  have hXC := Lib.hid hXC
  go_enter Tryd.func18, Tryd.ntmps18
  go_upto_region 1 with (fail)
  generalize hw1 : (w.alloc (.cells _ 26)).alloc _ = w1 at *
  clear hw1 hzs hzn hz
  have c23 := R.out.s.cellAt (hXC.out ▸ G23.out)
  go_upto_region 4 with (first
    | (refine wpList_load_mid rfl 26 (.tmp 4) rfl w.heap.size 0 rfl XC _ (hXC.out ▸ range_all R.out.s) Tryd.underlying26 rfl I0.out ?_)
    | (go_at_call 17; refine (LC.out _).mono ?_; rintro e w2 ⟨rfl, b2⟩; have R2 := Lib.hid (R.out.step b2); clear b2))
  clear R LC c23
  have c16 := R2.out.s.cellAt (hXC.out ▸ G16.out)
  go_upto_region 8 with (first
    | (refine wpList_load_mid rfl 26 (.tmp 4) rfl w.heap.size 0 rfl XC _ (hXC.out ▸ range_all R2.out.s) Tryd.underlying26 rfl I0.out ?_)
    | (go_at_call 26; refine (GC.out _ R2.out.m).mono ?_; rintro e w3 ⟨rfl, b3⟩; have R3 := Lib.hid (R2.out.step b3); clear b3))
  clear R2 GC c16
  go_upto_region 18 with (go_at_call 12; refine (FC.out _).mono ?_; rintro e w4 ⟨rfl, b4⟩; have R4 := Lib.hid (R3.out.step b4); clear b4)
  clear FC R3
  go_upto_region 20 with (first
    | (go_at_call 27; refine (RR.out _).mono ?_; rintro e w5 ⟨rfl, b5⟩; have R5 := Lib.hid (R4.out.step b5); clear b5)
    | (go_at_call 13; refine (RW.out _).mono ?_; rintro e w6 ⟨rfl, b6⟩; have R6 := Lib.hid (R5.out.step b6); clear b6))
  clear R4 R5 RR RW
  have c16 := R6.out.s.cellAt (hXC.out ▸ G16.out)
  have cA := R6.out.s.cellAt (hXC.out ▸ GA.out)
  have cB := R6.out.s.cellAt (hXC.out ▸ GB.out)
  have cD := R6.out.s.cellAt (hXC.out ▸ GD.out)
  have f16 := R6.out.s.unfrozen 16
  have c19 := R6.out.s.cellAt (hXC.out ▸ G19.out)
  have E1 := Lib.hid (R6.out.reg HX.out (a := 16) (by decide) ep)
  have OK1 := Lib.hid (HX.out.reg (a := 16) (v := ep) HV19.out)
  go_upto_region 101 with (fail)
  generalize World.setCell _ _ _ = w7 at *
  clear c16 cA cB cD c19
  have t22 := E1.out.s.cellAt OK1.out.g22
  have tf22 := E1.out.s.unfrozen 22
  have E2 := Lib.hid (E1.out.set (x' := { x.reg 16 ep with op := true }) 22 (.bool true) (OK1.out.s22 true))
  have OK2 := Lib.hid (show ({ x.reg 16 ep with op := true } : Se).Ok from ⟨OK1.out.l, OK1.out.w, OK1.out.s, OK1.out.p, OK1.out.m⟩)
  clear E1 OK1
  go_upto_region 102 with (fail)
  rw [← HBS.out] at E2 OK2
  have F := Lib.hid (E2.out.fin OK2.out 0 0)
  have RA := Lib.hid (range_all E2.out.s)
  have RZ := Lib.hid E2.out.z
  rw [hZC.out] at RZ
  have I2 := Lib.hid (info_se OK2.out)
  have HO := Lib.hid (Se.one (y))
  have YL := Lib.hid OK2.out.len
  generalize hw9 : World.setCell _ _ _ = w9 at *
  clear hw9
  clear E2
  generalize (y).cells = YC at *
  go_wp2_with (first
    | (refine wpList_load_mid rfl 26 (.tmp 4) rfl w.heap.size 0 rfl YC _ RA.out Tryd.underlying26 rfl I2.out ?_)
    | (refine wpList_store_mid rfl 26 (.tmp 8) (.tmp 407) rfl (w.heap.size + 1) 0 YC.toArray rfl rfl (there_of_blk RZ.out ?s1) ?s2 ?s3 ?_))
  case s1 => have h1 := HZL.out; have h2 := YL.out; simp; omega
  case s2 => simpa using I2.out
  case s3 => first | exact HO.out | exact all_oneCell_toArray HO.out
  refine bodyPost_ret (v := .tuple #[.agg YC.toArray, .int .u8 0, .int .u64 0]) (results_ctt Tryd.results18 _ _ (w.heap.size + 1) YC _ rfl F.out.2 Tryd.underlying26 rfl I2.out) rfl F.out.1
set_option maxRecDepth 8000 in
set_option maxHeartbeats 8000000 in
theorem rs_idle {B mb : Nat} {pv : Nat → Value} {M : Me} {w : World} (x : Se) (hx : x.Ok) (s : Mm B mb pv M w) (time me : Int) (hst : x.st ≠ 0) :
    Calls Tryd.prog 18 #[.agg x.cells.toArray, .pointer (some ⟨mb, 0, none⟩), .int .u64 time, .int .i64 me] w (RStepP B mb pv ⟨x, M, 5, 0⟩ w) := by
  have R := Lib.hid (Rs.new (x := x) s)
  have hz := zero_val
  have HZL := Lib.hid zero_ok.len
  have HX := Lib.hid hx
  have I0 := Lib.hid (info_se hx)
  have XL := Lib.hid hx.len
  have G23 := Lib.hid hx.g23
  have HO := Lib.hid (Se.one x)
  have hs : (((x.st : Nat) : Int) == 0) = false := by simp; omega
  clear s hx hst
  generalize hZC : zeroSe.cells = ZC at *
  have hZC := Lib.hid hZC
  have hzs : ZC.toArray.size = 26 := by simpa using HZL.out
  have hzn : ¬ ZC.toArray = #[] := fun h => by rw [h] at hzs; simp at hzs
  have F := Lib.hid (fun W (h : Rs B mb pv x M w W) => h.fin HX.out 5 0)
  generalize hXC : x.cells = XC at *
  have hXC := Lib.hid hXC
  generalize (x.st : Int) = sti at *
  go_enter Tryd.func18, Tryd.ntmps18
  go_upto_region 1 with (fail)
  generalize hw1 : (w.alloc (.cells _ 26)).alloc _ = w1 at *
  clear hw1 hzs hzn hz
  have c23 := R.out.s.cellAt (hXC.out ▸ G23.out)
  have RZ := Lib.hid R.out.z
  rw [hZC.out] at RZ
  have F1 := Lib.hid (F.out _ R.out)
  go_wp2_with (first
    | (refine wpList_load_mid rfl 26 (.tmp 4) rfl w.heap.size 0 rfl XC _ (hXC.out ▸ range_all R.out.s) Tryd.underlying26 rfl I0.out ?_)
    | (refine wpList_store_mid rfl 26 (.tmp 8) (.tmp 30) rfl (w.heap.size + 1) 0 XC.toArray rfl rfl (there_of_blk RZ.out ?s1) ?s2 ?s3 ?_))
  case s1 => have h1 := HZL.out; have h2 := XL.out; simp; omega
  case s2 => simpa using I0.out
  case s3 => first | exact HO.out | exact all_oneCell_toArray HO.out
  refine bodyPost_ret (v := .tuple #[.agg XC.toArray, .int .u8 5, .int .u64 0]) (results_ctt Tryd.results18 _ _ (w.heap.size + 1) XC _ rfl F1.out.2 Tryd.underlying26 rfl I0.out) rfl F1.out.1
set_option maxRecDepth 8000 in
set_option maxHeartbeats 8000000 in
theorem rs_line {B mb : Nat} {pv : Nat → Value} {M : Me} {w : World} (x : Se) (hx : x.Ok) (h8 : x.Ok8) (s : Mm B mb pv M w) (time me : Int) (hst : x.st = 0) (k : Nat) (hk : k < 8) (hln : lineL x = (k : Int)) (hb : 2 ^ k ≤ x.pe) :
    Calls Tryd.prog 18 #[.agg x.cells.toArray, .pointer (some ⟨mb, 0, none⟩), .int .u64 time, .int .i64 me] w (RStepP B mb pv ⟨trapS { x with pe := x.pe - 2 ^ k } (16 + k) 0, M, trapK (trapS { x with pe := x.pe - 2 ^ k } (16 + k) 0), 16 + k⟩ w) := by
  have R := Lib.hid (Rs.new (x := x) s)
  have LC := Lib.hid (fun W => refLine_calls x hx h8 W)
  rw [hln] at LC
  have hz := zero_val
  have HZL := Lib.hid zero_ok.len
  have HX := Lib.hid hx
  have I0 := Lib.hid (info_se hx)
  have XL := Lib.hid hx.len
  have G23 := Lib.hid hx.g23
  have G24 := Lib.hid hx.g24
  rw [hst] at G23
  have hy : ({ x with pe := x.pe - 2 ^ k } : Se).Ok := ⟨hx.l, hx.w, hx.s, Nat.lt_of_le_of_lt (Nat.sub_le _ _) hx.p, hx.m⟩
  have HY := Lib.hid hy
  have IY := Lib.hid (info_se hy)
  have TC := Lib.hid (fun W => trapped_calls { x with pe := x.pe - 2 ^ k } hy (16 + k) 0 (by omega) (by decide) W)
  have TO := Lib.hid (trap_ok hy (c := 16 + k) (a := 0) (by omega) (by decide))
  unfold trappedE at TC
  have S24 := Lib.hid (hx.s24 (x.pe - 2 ^ k))
  have hk0 : 0 ≤ (k : Int) := by omega
  have hk1 : (k : Int) ≤ 7 := by omega
  have hk2 : (k : Int).toNat = k := by omega
  have hk3 : ((16 + k : Nat) : Int) = 16 + (k : Int) := by omega
  have hpw : 2 ^ k ≤ 128 := Nat.le_trans (Nat.pow_le_pow_right (by decide) (show k ≤ 7 by omega)) (by decide)
  have hw1 : IntKind.u32.wrap ((2 : Int) ^ k) = (2 : Int) ^ k := by
    have e : ((2 : Int) ^ k) = ((2 ^ k : Nat) : Int) := by simp
    rw [e]
    generalize 2 ^ k = p at hpw
    rw [wrap_u32]; omega
  have hw2 : IntKind.u32.wrap ((x.pe : Int) - (2 : Int) ^ k) = ((x.pe - 2 ^ k : Nat) : Int) := by
    have e : ((2 : Int) ^ k) = ((2 ^ k : Nat) : Int) := by simp
    have := hx.p
    rw [e]
    generalize 2 ^ k = p at hpw hb
    rw [wrap_u32]; omega
  have hw3 : IntKind.u64.wrap (k : Int) = (k : Int) := by rw [wrap_u64]; omega
  have hw4 : IntKind.u64.wrap (16 + (k : Int)) = 16 + (k : Int) := by rw [wrap_u64]; omega
  generalize hY : ({ x with pe := x.pe - 2 ^ k } : Se) = y0 at *
  generalize x.pe - 2 ^ k = pk at *
  generalize trapS y0 (16 + k) 0 = y at *
  generalize hTK : trapK y = tk at *
  have hTK := Lib.hid hTK
  clear hln s hx h8 hst hb hy hpw
  generalize hZC : zeroSe.cells = ZC at *
  have hZC := Lib.hid hZC
  have hzs : ZC.toArray.size = 26 := by simpa using HZL.out
  have hzn : ¬ ZC.toArray = #[] := fun h => by rw [h] at hzs; simp at hzs
  generalize hXC : x.cells = XC at *
  have hXC := Lib.hid hXC
  generalize (x.pe : Int) = pe at *
  rw [hk3] at TC
  go_enter Tryd.func18, Tryd.ntmps18
  go_upto_region 1 with (fail)
  generalize hw1 : (w.alloc (.cells _ 26)).alloc _ = w1 at *
  clear hw1 hzs hzn hz
  have c23 := R.out.s.cellAt (hXC.out ▸ G23.out)
  go_upto_region 5 with (first
    | (refine wpList_load_mid rfl 26 (.tmp 4) rfl w.heap.size 0 rfl XC _ (hXC.out ▸ range_all R.out.s) Tryd.underlying26 rfl I0.out ?_)
    | (go_at_call 17; refine (LC.out _).mono ?_; rintro e w2 ⟨rfl, b2⟩; have R2 := Lib.hid (R.out.step b2); clear b2))
  clear R LC c23
  have c24 := R2.out.s.cellAt (hXC.out ▸ G24.out)
  have f24 := R2.out.s.unfrozen 24
  have E1 := Lib.hid ((R2.out.drewN 1).set (x' := y0) 24 (.int .u32 (pk : Int)) (by rw [hXC.out, S24.out]))
  go_still_tail 6, (by kernel_rfl)
  change wpList _ _ _ _ _ (World.drewN _ 1)
  go_upto_region 6 with (fail)
  generalize World.setCell _ _ _ = w4 at *
  clear R2 c24 f24
  have RA := Lib.hid (range_all E1.out.s)
  have YL := Lib.hid TO.out.len
  have I2 := Lib.hid (info_se TO.out)
  have HO := Lib.hid (Se.one y)
  generalize hYC : y0.cells = YC at *
  go_wp2_with (first
    | (refine wpList_load_mid rfl 26 (.tmp 4) rfl w.heap.size 0 rfl YC _ RA.out Tryd.underlying26 rfl IY.out ?_)
    | (go_at_call 25; refine (TC.out _).mono ?_; rintro e w8 ⟨rfl, b8⟩; have R8 := Lib.hid (E1.out.step b8); have F := Lib.hid (R8.out.fin TO.out tk (16 + k)); clear b8)
    | (refine wpList_store_mid rfl 26 (.tmp 8) (.tmp 46) rfl (w.heap.size + 1) 0 y.cells.toArray rfl rfl (there_of_blk R8.out.z ?s1) ?s2 ?s3 ?_))
  case s1 => have h1 := zero_ok.len; have h2 := YL.out; simp; omega
  case s2 => simpa using I2.out
  case s3 => first | exact HO.out | exact all_oneCell_toArray HO.out
  rw [hk3] at F
  refine bodyPost_ret (v := .tuple #[.agg y.cells.toArray, .int .u8 (tk : Int), .int .u64 (16 + (k : Int))]) (results_ctt Tryd.results18 _ _ (w.heap.size + 1) y.cells _ rfl F.out.2 Tryd.underlying26 rfl I2.out) rfl F.out.1
set_option maxRecDepth 8000 in
set_option maxHeartbeats 8000000 in
theorem rs_fetch {B mb : Nat} {pv : Nat → Value} {M : Me} {w : World} (x : Se) (hx : x.Ok) (h8 : x.Ok8) (s : Mm B mb pv M w) (time me : Int) (hst : x.st = 0) (hln : lineL x = -1) (hld : loadL M (x.r.getD 17 0) (x.r.getD 16 0) 4 = none) :
    Calls Tryd.prog 18 #[.agg x.cells.toArray, .pointer (some ⟨mb, 0, none⟩), .int .u64 time, .int .i64 me] w (RStepP B mb pv ⟨trapS x 2 (x.r.getD 16 0), M, trapK (trapS x 2 (x.r.getD 16 0)), 2⟩ w) := by
  have R := Lib.hid (Rs.new (x := x) s)
  have LC := Lib.hid (fun W => refLine_calls x hx h8 W)
  rw [hln] at LC
  have GC := Lib.hid (fun W (h : Mm B mb pv M W) => refGet_calls x hx h (x.r.getD 16 0) 4 (getD_lt hx 16) (.inl rfl))
  rw [hld] at GC
  simp only [loadE] at GC
  have hz := zero_val
  have HZL := Lib.hid zero_ok.len
  have HX := Lib.hid hx
  have I0 := Lib.hid (info_se hx)
  have I26 := Lib.hid size26
  have XL := Lib.hid hx.len
  have ZL := Lib.hid (fun (a : Nat) (ha : a < 26) => ha)
  have G16 := Lib.hid (hx.gr (i := 16) (by decide))
  have G23 := Lib.hid hx.g23
  rw [hst] at G23
  have TC := Lib.hid (fun W => trapped_calls x hx 2 (x.r.getD 16 0) (by decide) (getD_lt hx 16) W)
  have TO := Lib.hid (trap_ok hx (c := 2) (a := (x.r.getD 16 0)) (by decide) (getD_lt hx 16))
  unfold trappedE at TC
  generalize trapS x 2 (x.r.getD 16 0) = y at *
  generalize hTK : trapK y = tk at *
  have hTK := Lib.hid hTK
  clear hln hld s hx h8 hst
  generalize x.r.getD 16 0 = pc at *
  generalize hZC : zeroSe.cells = ZC at *
  have hZC := Lib.hid hZC
  have hzs : ZC.toArray.size = 26 := by simpa using HZL.out
  have hzn : ¬ ZC.toArray = #[] := fun h => by rw [h] at hzs; simp at hzs
  generalize hXC : x.cells = XC at *
  have hXC := Lib.hid hXC
  go_enter Tryd.func18, Tryd.ntmps18
  go_upto_region 1 with (fail)
  generalize hw1 : (w.alloc (.cells _ 26)).alloc _ = w1 at *
  clear hw1 hzs hzn hz
  have c23 := R.out.s.cellAt (hXC.out ▸ G23.out)
  go_upto_region 4 with (first
    | (refine wpList_load_mid rfl 26 (.tmp 4) rfl w.heap.size 0 rfl XC _ (hXC.out ▸ range_all R.out.s) Tryd.underlying26 rfl I0.out ?_)
    | (go_at_call 17; refine (LC.out _).mono ?_; rintro e w2 ⟨rfl, b2⟩; have R2 := Lib.hid (R.out.step b2); clear b2))
  clear R LC c23
  have c16 := R2.out.s.cellAt (hXC.out ▸ G16.out)
  go_upto_region 8 with (first
    | (refine wpList_load_mid rfl 26 (.tmp 4) rfl w.heap.size 0 rfl XC _ (hXC.out ▸ range_all R2.out.s) Tryd.underlying26 rfl I0.out ?_)
    | (go_at_call 26; refine (GC.out _ R2.out.m).mono ?_; rintro e w3 ⟨rfl, b3⟩; have R3 := Lib.hid (R2.out.step b3); clear b3))
  clear R2 GC c16
  have c16 := R3.out.s.cellAt (hXC.out ▸ G16.out)
  have RA := Lib.hid (hXC.out ▸ range_all R3.out.s)
  have YL := Lib.hid TO.out.len
  have I2 := Lib.hid (info_se TO.out)
  have HO := Lib.hid (Se.one y)
  go_wp2_with (first
    | (refine wpList_load_mid rfl 26 (.tmp 4) rfl w.heap.size 0 rfl XC _ RA.out Tryd.underlying26 rfl I0.out ?_)
    | (go_at_call 25; refine (TC.out _).mono ?_; rintro e w8 ⟨rfl, b8⟩; have R8 := Lib.hid (R3.out.step b8); have F := Lib.hid (R8.out.fin TO.out tk 2); clear b8)
    | (refine wpList_store_mid rfl 26 (.tmp 8) (.tmp 63) rfl (w.heap.size + 1) 0 y.cells.toArray rfl rfl (there_of_blk R8.out.z ?s1) ?s2 ?s3 ?_))
  case s1 => have h1 := zero_ok.len; have h2 := YL.out; simp; omega
  case s2 => simpa using I2.out
  case s3 => first | exact HO.out | exact all_oneCell_toArray HO.out
  refine bodyPost_ret (v := .tuple #[.agg y.cells.toArray, .int .u8 (tk : Int), .int .u64 2]) (results_ctt Tryd.results18 _ _ (w.heap.size + 1) y.cells _ rfl F.out.2 Tryd.underlying26 rfl I2.out) rfl F.out.1
set_option maxRecDepth 8000 in
set_option maxHeartbeats 8000000 in
theorem rs_badA {B mb : Nat} {pv : Nat → Value} {M : Me} {w : World} (x : Se) (hx : x.Ok) (h8 : x.Ok8) (s : Mm B mb pv M w) (time me : Int) (hst : x.st = 0) (hln : lineL x = -1) (v : Nat) (hv : v < 2 ^ 32) (hld : loadL M (x.r.getD 17 0) (x.r.getD 16 0) 4 = some v) (c a b : Nat) (n : Int) (hc : c < 256) (ha : a < 16) (hb16 : b < 16) (qc : (v : Int) / 67108864 = c) (qa : (v : Int) / 4194304 % 16 = a) (qb : (v : Int) / 262144 % 16 = b) (qn : IntKind.i16.wrap ((v : Int) % 65536) = n) (h23 : 23 ≤ c) :
    Calls Tryd.prog 18 #[.agg x.cells.toArray, .pointer (some ⟨mb, 0, none⟩), .int .u64 time, .int .i64 me] w (RStepP B mb pv ⟨trapS x 1 v, M, trapK (trapS x 1 v), 1⟩ w) := by
  have R := Lib.hid (Rs.new (x := x) s)
  have LC := Lib.hid (fun W => refLine_calls x hx h8 W)
  rw [hln] at LC
  have GC := Lib.hid (fun W (h : Mm B mb pv M W) => refGet_calls x hx h (x.r.getD 16 0) 4 (getD_lt hx 16) (.inl rfl))
  rw [hld] at GC
  simp only [loadE] at GC
  have hz := zero_val
  have HZL := Lib.hid zero_ok.len
  have HX := Lib.hid hx
  have I0 := Lib.hid (info_se hx)
  have I26 := Lib.hid size26
  have XL := Lib.hid hx.len
  have ZL := Lib.hid (fun (a : Nat) (ha : a < 26) => ha)
  have G16 := Lib.hid (hx.gr (i := 16) (by decide))
  have G23 := Lib.hid hx.g23
  rw [hst] at G23
  have TC := Lib.hid (fun W => trapped_calls x hx 1 v (by decide) (by omega) W)
  have TO := Lib.hid (trap_ok hx (c := 1) (a := v) (by decide) (by omega))
  unfold trappedE at TC
  generalize trapS x 1 v = y at *
  generalize hTK : trapK y = tk at *
  have hTK := Lib.hid hTK
  have RR : Hid (∀ W, Calls Tryd.prog 27 #[.int .u8 (c : Int), .int .u8 (a : Int), .int .u8 (b : Int), .int .u8 0, .int .i16 n] W fun e w' => e = .returned (.bool false) ∧ Below W.heap.size W w') := fun W => (show rightB (c : Int) a b ((0 : Nat) : Int) n = false by unfold rightB; simp; omega) ▸ refRight_calls c a b 0 n W
  have hci : ¬ (c : Int) < 23 := by omega
  have hci0 : 0 ≤ (c : Int) := by omega
  have hci1 : (c : Int) ≤ 255 := by omega
  clear hln hld s hx h8 hst
  generalize x.r.getD 16 0 = pc at *
  generalize hZC : zeroSe.cells = ZC at *
  have hZC := Lib.hid hZC
  have hzs : ZC.toArray.size = 26 := by simpa using HZL.out
  have hzn : ¬ ZC.toArray = #[] := fun h => by rw [h] at hzs; simp at hzs
  generalize hXC : x.cells = XC at *
  have hXC := Lib.hid hXC
  go_enter Tryd.func18, Tryd.ntmps18
  go_upto_region 1 with (fail)
  generalize hw1 : (w.alloc (.cells _ 26)).alloc _ = w1 at *
  clear hw1 hzs hzn hz
  have c23 := R.out.s.cellAt (hXC.out ▸ G23.out)
  go_upto_region 4 with (first
    | (refine wpList_load_mid rfl 26 (.tmp 4) rfl w.heap.size 0 rfl XC _ (hXC.out ▸ range_all R.out.s) Tryd.underlying26 rfl I0.out ?_)
    | (go_at_call 17; refine (LC.out _).mono ?_; rintro e w2 ⟨rfl, b2⟩; have R2 := Lib.hid (R.out.step b2); clear b2))
  clear R LC c23
  have c16 := R2.out.s.cellAt (hXC.out ▸ G16.out)
  go_upto_region 8 with (first
    | (refine wpList_load_mid rfl 26 (.tmp 4) rfl w.heap.size 0 rfl XC _ (hXC.out ▸ range_all R2.out.s) Tryd.underlying26 rfl I0.out ?_)
    | (go_at_call 26; refine (GC.out _ R2.out.m).mono ?_; rintro e w3 ⟨rfl, b3⟩; have R3 := Lib.hid (R2.out.step b3); clear b3))
  clear R2 GC c16
  go_upto_region 19 with (go_at_call 27; refine (RR.out _).mono ?_; rintro e w5 ⟨rfl, b5⟩; have R6 := Lib.hid (R3.out.step b5); clear b5)
  have RA := Lib.hid (hXC.out ▸ range_all R6.out.s)
  have YL := Lib.hid TO.out.len
  have I2 := Lib.hid (info_se TO.out)
  have HO := Lib.hid (Se.one y)
  go_wp2_with (first
    | (refine wpList_load_mid rfl 26 (.tmp 4) rfl w.heap.size 0 rfl XC _ RA.out Tryd.underlying26 rfl I0.out ?_)
    | (go_at_call 25; refine (TC.out _).mono ?_; rintro e w8 ⟨rfl, b8⟩; have R8 := Lib.hid (R6.out.step b8); have F := Lib.hid (R8.out.fin TO.out tk 1); clear b8)
    | (refine wpList_store_mid rfl 26 (.tmp 8) (.tmp 114) rfl (w.heap.size + 1) 0 y.cells.toArray rfl rfl (there_of_blk R8.out.z ?s1) ?s2 ?s3 ?_))
  case s1 => have h1 := zero_ok.len; have h2 := YL.out; simp; omega
  case s2 => simpa using I2.out
  case s3 => first | exact HO.out | exact all_oneCell_toArray HO.out
  refine bodyPost_ret (v := .tuple #[.agg y.cells.toArray, .int .u8 (tk : Int), .int .u64 1]) (results_ctt Tryd.results18 _ _ (w.heap.size + 1) y.cells _ rfl F.out.2 Tryd.underlying26 rfl I2.out) rfl F.out.1
set_option maxRecDepth 8000 in
set_option maxHeartbeats 8000000 in
theorem rs_badBt {B mb : Nat} {pv : Nat → Value} {M : Me} {w : World} (x : Se) (hx : x.Ok) (h8 : x.Ok8) (s : Mm B mb pv M w) (time me : Int) (hst : x.st = 0) (hln : lineL x = -1) (v : Nat) (hv : v < 2 ^ 32) (hld : loadL M (x.r.getD 17 0) (x.r.getD 16 0) 4 = some v) (c a b : Nat) (n : Int) (hc : c < 256) (ha : a < 16) (hb16 : b < 16) (qc : (v : Int) / 67108864 = c) (qa : (v : Int) / 4194304 % 16 = a) (qb : (v : Int) / 262144 % 16 = b) (qn : IntKind.i16.wrap ((v : Int) % 65536) = n) (h23 : c < 23) (hf : fC (c : Int) = true) (d : Nat) (hd : d < 16) (qd : (v : Int) % 16 = d) (hr : rightB (c : Int) a b ((d : Nat) : Int) 0 = false) :
    Calls Tryd.prog 18 #[.agg x.cells.toArray, .pointer (some ⟨mb, 0, none⟩), .int .u64 time, .int .i64 me] w (RStepP B mb pv ⟨trapS x 1 v, M, trapK (trapS x 1 v), 1⟩ w) := by
  have R := Lib.hid (Rs.new (x := x) s)
  have LC := Lib.hid (fun W => refLine_calls x hx h8 W)
  rw [hln] at LC
  have GC := Lib.hid (fun W (h : Mm B mb pv M W) => refGet_calls x hx h (x.r.getD 16 0) 4 (getD_lt hx 16) (.inl rfl))
  rw [hld] at GC
  simp only [loadE] at GC
  have hz := zero_val
  have HZL := Lib.hid zero_ok.len
  have HX := Lib.hid hx
  have I0 := Lib.hid (info_se hx)
  have I26 := Lib.hid size26
  have XL := Lib.hid hx.len
  have ZL := Lib.hid (fun (a : Nat) (ha : a < 26) => ha)
  have G16 := Lib.hid (hx.gr (i := 16) (by decide))
  have G23 := Lib.hid hx.g23
  rw [hst] at G23
  have TC := Lib.hid (fun W => trapped_calls x hx 1 v (by decide) (by omega) W)
  have TO := Lib.hid (trap_ok hx (c := 1) (a := v) (by decide) (by omega))
  unfold trappedE at TC
  generalize trapS x 1 v = y at *
  generalize hTK : trapK y = tk at *
  have hTK := Lib.hid hTK
  have RR : Hid (∀ W, Calls Tryd.prog 27 #[.int .u8 (c : Int), .int .u8 (a : Int), .int .u8 (b : Int), .int .u8 (d : Int), .int .i16 0] W fun e w' => e = .returned (.bool false) ∧ Below W.heap.size W w') := fun W => hr ▸ refRight_calls c a b d 0 W
  clear hr
  have FC := Lib.hid (fun W => refFields_calls c h23 W)
  obtain ⟨p1, p2, _, _, p3, _⟩ := refF_props c h23
  have p4 : (refF c / 4 % 2 == 1) = true := (by
    simpa using p3.1 hf)
  clear p3 hf
  generalize refF c = rf at *
  have hci : (c : Int) < 23 := by omega
  have hci0 : 0 ≤ (c : Int) := by omega
  have hci1 : (c : Int) ≤ 255 := by omega
  clear hln hld s hx h8 hst
  generalize x.r.getD 16 0 = pc at *
  generalize hZC : zeroSe.cells = ZC at *
  have hZC := Lib.hid hZC
  have hzs : ZC.toArray.size = 26 := by simpa using HZL.out
  have hzn : ¬ ZC.toArray = #[] := fun h => by rw [h] at hzs; simp at hzs
  generalize hXC : x.cells = XC at *
  have hXC := Lib.hid hXC
  go_enter Tryd.func18, Tryd.ntmps18
  go_upto_region 1 with (fail)
  generalize hw1 : (w.alloc (.cells _ 26)).alloc _ = w1 at *
  clear hw1 hzs hzn hz
  have c23 := R.out.s.cellAt (hXC.out ▸ G23.out)
  go_upto_region 4 with (first
    | (refine wpList_load_mid rfl 26 (.tmp 4) rfl w.heap.size 0 rfl XC _ (hXC.out ▸ range_all R.out.s) Tryd.underlying26 rfl I0.out ?_)
    | (go_at_call 17; refine (LC.out _).mono ?_; rintro e w2 ⟨rfl, b2⟩; have R2 := Lib.hid (R.out.step b2); clear b2))
  clear R LC c23
  have c16 := R2.out.s.cellAt (hXC.out ▸ G16.out)
  go_upto_region 8 with (first
    | (refine wpList_load_mid rfl 26 (.tmp 4) rfl w.heap.size 0 rfl XC _ (hXC.out ▸ range_all R2.out.s) Tryd.underlying26 rfl I0.out ?_)
    | (go_at_call 26; refine (GC.out _ R2.out.m).mono ?_; rintro e w3 ⟨rfl, b3⟩; have R3 := Lib.hid (R2.out.step b3); clear b3))
  clear R2 GC c16
  go_upto_region 18 with (go_at_call 12; refine (FC.out _).mono ?_; rintro e w4 ⟨rfl, b4⟩; have R4 := Lib.hid (R3.out.step b4); clear b4)
  clear FC R3
  go_upto_region 19 with (go_at_call 27; refine (RR.out _).mono ?_; rintro e w5 ⟨rfl, b5⟩; have R6 := Lib.hid (R4.out.step b5); clear b5)
  have RA := Lib.hid (hXC.out ▸ range_all R6.out.s)
  have YL := Lib.hid TO.out.len
  have I2 := Lib.hid (info_se TO.out)
  have HO := Lib.hid (Se.one y)
  go_wp2_with (first
    | (refine wpList_load_mid rfl 26 (.tmp 4) rfl w.heap.size 0 rfl XC _ RA.out Tryd.underlying26 rfl I0.out ?_)
    | (go_at_call 25; refine (TC.out _).mono ?_; rintro e w8 ⟨rfl, b8⟩; have R8 := Lib.hid (R6.out.step b8); have F := Lib.hid (R8.out.fin TO.out tk 1); clear b8)
    | (refine wpList_store_mid rfl 26 (.tmp 8) (.tmp 114) rfl (w.heap.size + 1) 0 y.cells.toArray rfl rfl (there_of_blk R8.out.z ?s1) ?s2 ?s3 ?_))
  case s1 => have h1 := zero_ok.len; have h2 := YL.out; simp; omega
  case s2 => simpa using I2.out
  case s3 => first | exact HO.out | exact all_oneCell_toArray HO.out
  refine bodyPost_ret (v := .tuple #[.agg y.cells.toArray, .int .u8 (tk : Int), .int .u64 1]) (results_ctt Tryd.results18 _ _ (w.heap.size + 1) y.cells _ rfl F.out.2 Tryd.underlying26 rfl I2.out) rfl F.out.1
set_option maxRecDepth 8000 in
set_option maxHeartbeats 8000000 in
theorem rs_badBf {B mb : Nat} {pv : Nat → Value} {M : Me} {w : World} (x : Se) (hx : x.Ok) (h8 : x.Ok8) (s : Mm B mb pv M w) (time me : Int) (hst : x.st = 0) (hln : lineL x = -1) (v : Nat) (hv : v < 2 ^ 32) (hld : loadL M (x.r.getD 17 0) (x.r.getD 16 0) 4 = some v) (c a b : Nat) (n : Int) (hc : c < 256) (ha : a < 16) (hb16 : b < 16) (qc : (v : Int) / 67108864 = c) (qa : (v : Int) / 4194304 % 16 = a) (qb : (v : Int) / 262144 % 16 = b) (qn : IntKind.i16.wrap ((v : Int) % 65536) = n) (h23 : c < 23) (hf : fC (c : Int) = false) (hr : rightB (c : Int) a b ((0 : Nat) : Int) n = false) :
    Calls Tryd.prog 18 #[.agg x.cells.toArray, .pointer (some ⟨mb, 0, none⟩), .int .u64 time, .int .i64 me] w (RStepP B mb pv ⟨trapS x 1 v, M, trapK (trapS x 1 v), 1⟩ w) := by
  have R := Lib.hid (Rs.new (x := x) s)
  have LC := Lib.hid (fun W => refLine_calls x hx h8 W)
  rw [hln] at LC
  have GC := Lib.hid (fun W (h : Mm B mb pv M W) => refGet_calls x hx h (x.r.getD 16 0) 4 (getD_lt hx 16) (.inl rfl))
  rw [hld] at GC
  simp only [loadE] at GC
  have hz := zero_val
  have HZL := Lib.hid zero_ok.len
  have HX := Lib.hid hx
  have I0 := Lib.hid (info_se hx)
  have I26 := Lib.hid size26
  have XL := Lib.hid hx.len
  have ZL := Lib.hid (fun (a : Nat) (ha : a < 26) => ha)
  have G16 := Lib.hid (hx.gr (i := 16) (by decide))
  have G23 := Lib.hid hx.g23
  rw [hst] at G23
  have TC := Lib.hid (fun W => trapped_calls x hx 1 v (by decide) (by omega) W)
  have TO := Lib.hid (trap_ok hx (c := 1) (a := v) (by decide) (by omega))
  unfold trappedE at TC
  generalize trapS x 1 v = y at *
  generalize hTK : trapK y = tk at *
  have hTK := Lib.hid hTK
  have RR : Hid (∀ W, Calls Tryd.prog 27 #[.int .u8 (c : Int), .int .u8 (a : Int), .int .u8 (b : Int), .int .u8 0, .int .i16 n] W fun e w' => e = .returned (.bool false) ∧ Below W.heap.size W w') := fun W => hr ▸ refRight_calls c a b 0 n W
  clear hr
  have FC := Lib.hid (fun W => refFields_calls c h23 W)
  obtain ⟨p1, p2, _, _, p3, _⟩ := refF_props c h23
  have p4 : (refF c / 4 % 2 == 1) = false := (by
    have h : ¬ refF c / 4 % 2 = 1 := (fun h => by rw [p3.2 h] at hf; cases hf)
    simpa using h)
  clear p3 hf
  generalize refF c = rf at *
  have hci : (c : Int) < 23 := by omega
  have hci0 : 0 ≤ (c : Int) := by omega
  have hci1 : (c : Int) ≤ 255 := by omega
  clear hln hld s hx h8 hst
  generalize x.r.getD 16 0 = pc at *
  generalize hZC : zeroSe.cells = ZC at *
  have hZC := Lib.hid hZC
  have hzs : ZC.toArray.size = 26 := by simpa using HZL.out
  have hzn : ¬ ZC.toArray = #[] := fun h => by rw [h] at hzs; simp at hzs
  generalize hXC : x.cells = XC at *
  have hXC := Lib.hid hXC
  go_enter Tryd.func18, Tryd.ntmps18
  go_upto_region 1 with (fail)
  generalize hw1 : (w.alloc (.cells _ 26)).alloc _ = w1 at *
  clear hw1 hzs hzn hz
  have c23 := R.out.s.cellAt (hXC.out ▸ G23.out)
  go_upto_region 4 with (first
    | (refine wpList_load_mid rfl 26 (.tmp 4) rfl w.heap.size 0 rfl XC _ (hXC.out ▸ range_all R.out.s) Tryd.underlying26 rfl I0.out ?_)
    | (go_at_call 17; refine (LC.out _).mono ?_; rintro e w2 ⟨rfl, b2⟩; have R2 := Lib.hid (R.out.step b2); clear b2))
  clear R LC c23
  have c16 := R2.out.s.cellAt (hXC.out ▸ G16.out)
  go_upto_region 8 with (first
    | (refine wpList_load_mid rfl 26 (.tmp 4) rfl w.heap.size 0 rfl XC _ (hXC.out ▸ range_all R2.out.s) Tryd.underlying26 rfl I0.out ?_)
    | (go_at_call 26; refine (GC.out _ R2.out.m).mono ?_; rintro e w3 ⟨rfl, b3⟩; have R3 := Lib.hid (R2.out.step b3); clear b3))
  clear R2 GC c16
  go_upto_region 18 with (go_at_call 12; refine (FC.out _).mono ?_; rintro e w4 ⟨rfl, b4⟩; have R4 := Lib.hid (R3.out.step b4); clear b4)
  clear FC R3
  go_upto_region 19 with (go_at_call 27; refine (RR.out _).mono ?_; rintro e w5 ⟨rfl, b5⟩; have R6 := Lib.hid (R4.out.step b5); clear b5)
  have RA := Lib.hid (hXC.out ▸ range_all R6.out.s)
  have YL := Lib.hid TO.out.len
  have I2 := Lib.hid (info_se TO.out)
  have HO := Lib.hid (Se.one y)
  go_wp2_with (first
    | (refine wpList_load_mid rfl 26 (.tmp 4) rfl w.heap.size 0 rfl XC _ RA.out Tryd.underlying26 rfl I0.out ?_)
    | (go_at_call 25; refine (TC.out _).mono ?_; rintro e w8 ⟨rfl, b8⟩; have R8 := Lib.hid (R6.out.step b8); have F := Lib.hid (R8.out.fin TO.out tk 1); clear b8)
    | (refine wpList_store_mid rfl 26 (.tmp 8) (.tmp 114) rfl (w.heap.size + 1) 0 y.cells.toArray rfl rfl (there_of_blk R8.out.z ?s1) ?s2 ?s3 ?_))
  case s1 => have h1 := zero_ok.len; have h2 := YL.out; simp; omega
  case s2 => simpa using I2.out
  case s3 => first | exact HO.out | exact all_oneCell_toArray HO.out
  refine bodyPost_ret (v := .tuple #[.agg y.cells.toArray, .int .u8 (tk : Int), .int .u64 1]) (results_ctt Tryd.results18 _ _ (w.heap.size + 1) y.cells _ rfl F.out.2 Tryd.underlying26 rfl I2.out) rfl F.out.1
set_option maxRecDepth 8000 in
set_option maxHeartbeats 8000000 in
theorem rs_badCt {B mb : Nat} {pv : Nat → Value} {M : Me} {w : World} (x : Se) (hx : x.Ok) (h8 : x.Ok8) (s : Mm B mb pv M w) (time me : Int) (hst : x.st = 0) (hln : lineL x = -1) (v : Nat) (hv : v < 2 ^ 32) (hld : loadL M (x.r.getD 17 0) (x.r.getD 16 0) 4 = some v) (c a b : Nat) (n : Int) (hc : c < 256) (ha : a < 16) (hb16 : b < 16) (qc : (v : Int) / 67108864 = c) (qa : (v : Int) / 4194304 % 16 = a) (qb : (v : Int) / 262144 % 16 = b) (qn : IntKind.i16.wrap ((v : Int) % 65536) = n) (h23 : c < 23) (hf : fC (c : Int) = true) (d : Nat) (hd : d < 16) (qd : (v : Int) % 16 = d) (hr : rightB (c : Int) a b ((d : Nat) : Int) 0 = true) (hw : wordF c a b d 0 ≠ v) :
    Calls Tryd.prog 18 #[.agg x.cells.toArray, .pointer (some ⟨mb, 0, none⟩), .int .u64 time, .int .i64 me] w (RStepP B mb pv ⟨trapS x 1 v, M, trapK (trapS x 1 v), 1⟩ w) := by
  have R := Lib.hid (Rs.new (x := x) s)
  have LC := Lib.hid (fun W => refLine_calls x hx h8 W)
  rw [hln] at LC
  have GC := Lib.hid (fun W (h : Mm B mb pv M W) => refGet_calls x hx h (x.r.getD 16 0) 4 (getD_lt hx 16) (.inl rfl))
  rw [hld] at GC
  simp only [loadE] at GC
  have hz := zero_val
  have HZL := Lib.hid zero_ok.len
  have HX := Lib.hid hx
  have I0 := Lib.hid (info_se hx)
  have I26 := Lib.hid size26
  have XL := Lib.hid hx.len
  have ZL := Lib.hid (fun (a : Nat) (ha : a < 26) => ha)
  have G16 := Lib.hid (hx.gr (i := 16) (by decide))
  have G23 := Lib.hid hx.g23
  rw [hst] at G23
  have TC := Lib.hid (fun W => trapped_calls x hx 1 v (by decide) (by omega) W)
  have TO := Lib.hid (trap_ok hx (c := 1) (a := v) (by decide) (by omega))
  unfold trappedE at TC
  generalize trapS x 1 v = y at *
  generalize hTK : trapK y = tk at *
  have hTK := Lib.hid hTK
  have RR : Hid (∀ W, Calls Tryd.prog 27 #[.int .u8 (c : Int), .int .u8 (a : Int), .int .u8 (b : Int), .int .u8 (d : Int), .int .i16 0] W fun e w' => e = .returned (.bool true) ∧ Below W.heap.size W w') := fun W => hr ▸ refRight_calls c a b d 0 W
  have RW : Hid (∀ W, Calls Tryd.prog 13 #[.int .u8 (c : Int), .int .u8 (a : Int), .int .u8 (b : Int), .int .u8 (d : Int), .int .i16 0] W fun e w' => e = .returned (.int .u32 (wordF c a b d 0 : Nat)) ∧ Below W.heap.size W w') := fun W => refWord_calls c a b d 0 h23 ha hb16 hd W
  have hne : (((wordF c a b d 0 : Nat) : Int) == (v : Int)) = false := by simp; omega
  clear hr hw
  generalize wordF c a b d 0 = wv at *
  have FC := Lib.hid (fun W => refFields_calls c h23 W)
  obtain ⟨p1, p2, _, _, p3, _⟩ := refF_props c h23
  have p4 : (refF c / 4 % 2 == 1) = true := (by
    simpa using p3.1 hf)
  clear p3 hf
  generalize refF c = rf at *
  have hci : (c : Int) < 23 := by omega
  have hci0 : 0 ≤ (c : Int) := by omega
  have hci1 : (c : Int) ≤ 255 := by omega
  clear hln hld s hx h8 hst
  generalize x.r.getD 16 0 = pc at *
  generalize hZC : zeroSe.cells = ZC at *
  have hZC := Lib.hid hZC
  have hzs : ZC.toArray.size = 26 := by simpa using HZL.out
  have hzn : ¬ ZC.toArray = #[] := fun h => by rw [h] at hzs; simp at hzs
  generalize hXC : x.cells = XC at *
  have hXC := Lib.hid hXC
  go_enter Tryd.func18, Tryd.ntmps18
  go_upto_region 1 with (fail)
  generalize hw1 : (w.alloc (.cells _ 26)).alloc _ = w1 at *
  clear hw1 hzs hzn hz
  have c23 := R.out.s.cellAt (hXC.out ▸ G23.out)
  go_upto_region 4 with (first
    | (refine wpList_load_mid rfl 26 (.tmp 4) rfl w.heap.size 0 rfl XC _ (hXC.out ▸ range_all R.out.s) Tryd.underlying26 rfl I0.out ?_)
    | (go_at_call 17; refine (LC.out _).mono ?_; rintro e w2 ⟨rfl, b2⟩; have R2 := Lib.hid (R.out.step b2); clear b2))
  clear R LC c23
  have c16 := R2.out.s.cellAt (hXC.out ▸ G16.out)
  go_upto_region 8 with (first
    | (refine wpList_load_mid rfl 26 (.tmp 4) rfl w.heap.size 0 rfl XC _ (hXC.out ▸ range_all R2.out.s) Tryd.underlying26 rfl I0.out ?_)
    | (go_at_call 26; refine (GC.out _ R2.out.m).mono ?_; rintro e w3 ⟨rfl, b3⟩; have R3 := Lib.hid (R2.out.step b3); clear b3))
  clear R2 GC c16
  go_upto_region 18 with (go_at_call 12; refine (FC.out _).mono ?_; rintro e w4 ⟨rfl, b4⟩; have R4 := Lib.hid (R3.out.step b4); clear b4)
  clear FC R3
  go_upto_region 19 with (first
    | (go_at_call 27; refine (RR.out _).mono ?_; rintro e w5 ⟨rfl, b5⟩; have R5 := Lib.hid (R4.out.step b5); clear b5)
    | (go_at_call 13; refine (RW.out _).mono ?_; rintro e w6 ⟨rfl, b6⟩; have R6 := Lib.hid (R5.out.step b6); clear b6))
  have RA := Lib.hid (hXC.out ▸ range_all R6.out.s)
  have YL := Lib.hid TO.out.len
  have I2 := Lib.hid (info_se TO.out)
  have HO := Lib.hid (Se.one y)
  go_wp2_with (first
    | (refine wpList_load_mid rfl 26 (.tmp 4) rfl w.heap.size 0 rfl XC _ RA.out Tryd.underlying26 rfl I0.out ?_)
    | (go_at_call 25; refine (TC.out _).mono ?_; rintro e w8 ⟨rfl, b8⟩; have R8 := Lib.hid (R6.out.step b8); have F := Lib.hid (R8.out.fin TO.out tk 1); clear b8)
    | (refine wpList_store_mid rfl 26 (.tmp 8) (.tmp 114) rfl (w.heap.size + 1) 0 y.cells.toArray rfl rfl (there_of_blk R8.out.z ?s1) ?s2 ?s3 ?_))
  case s1 => have h1 := zero_ok.len; have h2 := YL.out; simp; omega
  case s2 => simpa using I2.out
  case s3 => first | exact HO.out | exact all_oneCell_toArray HO.out
  refine bodyPost_ret (v := .tuple #[.agg y.cells.toArray, .int .u8 (tk : Int), .int .u64 1]) (results_ctt Tryd.results18 _ _ (w.heap.size + 1) y.cells _ rfl F.out.2 Tryd.underlying26 rfl I2.out) rfl F.out.1
set_option maxRecDepth 8000 in
set_option maxHeartbeats 8000000 in
theorem rs_badCf {B mb : Nat} {pv : Nat → Value} {M : Me} {w : World} (x : Se) (hx : x.Ok) (h8 : x.Ok8) (s : Mm B mb pv M w) (time me : Int) (hst : x.st = 0) (hln : lineL x = -1) (v : Nat) (hv : v < 2 ^ 32) (hld : loadL M (x.r.getD 17 0) (x.r.getD 16 0) 4 = some v) (c a b : Nat) (n : Int) (hc : c < 256) (ha : a < 16) (hb16 : b < 16) (qc : (v : Int) / 67108864 = c) (qa : (v : Int) / 4194304 % 16 = a) (qb : (v : Int) / 262144 % 16 = b) (qn : IntKind.i16.wrap ((v : Int) % 65536) = n) (h23 : c < 23) (hf : fC (c : Int) = false) (hr : rightB (c : Int) a b ((0 : Nat) : Int) n = true) (hw : wordF c a b 0 n ≠ v) :
    Calls Tryd.prog 18 #[.agg x.cells.toArray, .pointer (some ⟨mb, 0, none⟩), .int .u64 time, .int .i64 me] w (RStepP B mb pv ⟨trapS x 1 v, M, trapK (trapS x 1 v), 1⟩ w) := by
  have R := Lib.hid (Rs.new (x := x) s)
  have LC := Lib.hid (fun W => refLine_calls x hx h8 W)
  rw [hln] at LC
  have GC := Lib.hid (fun W (h : Mm B mb pv M W) => refGet_calls x hx h (x.r.getD 16 0) 4 (getD_lt hx 16) (.inl rfl))
  rw [hld] at GC
  simp only [loadE] at GC
  have hz := zero_val
  have HZL := Lib.hid zero_ok.len
  have HX := Lib.hid hx
  have I0 := Lib.hid (info_se hx)
  have I26 := Lib.hid size26
  have XL := Lib.hid hx.len
  have ZL := Lib.hid (fun (a : Nat) (ha : a < 26) => ha)
  have G16 := Lib.hid (hx.gr (i := 16) (by decide))
  have G23 := Lib.hid hx.g23
  rw [hst] at G23
  have TC := Lib.hid (fun W => trapped_calls x hx 1 v (by decide) (by omega) W)
  have TO := Lib.hid (trap_ok hx (c := 1) (a := v) (by decide) (by omega))
  unfold trappedE at TC
  generalize trapS x 1 v = y at *
  generalize hTK : trapK y = tk at *
  have hTK := Lib.hid hTK
  have RR : Hid (∀ W, Calls Tryd.prog 27 #[.int .u8 (c : Int), .int .u8 (a : Int), .int .u8 (b : Int), .int .u8 0, .int .i16 n] W fun e w' => e = .returned (.bool true) ∧ Below W.heap.size W w') := fun W => hr ▸ refRight_calls c a b 0 n W
  have RW : Hid (∀ W, Calls Tryd.prog 13 #[.int .u8 (c : Int), .int .u8 (a : Int), .int .u8 (b : Int), .int .u8 0, .int .i16 n] W fun e w' => e = .returned (.int .u32 (wordF c a b 0 n : Nat)) ∧ Below W.heap.size W w') := fun W => refWord_calls c a b 0 n h23 ha hb16 (by decide) W
  have hne : (((wordF c a b 0 n : Nat) : Int) == (v : Int)) = false := by simp; omega
  clear hr hw
  generalize wordF c a b 0 n = wv at *
  have FC := Lib.hid (fun W => refFields_calls c h23 W)
  obtain ⟨p1, p2, _, _, p3, _⟩ := refF_props c h23
  have p4 : (refF c / 4 % 2 == 1) = false := (by
    have h : ¬ refF c / 4 % 2 = 1 := (fun h => by rw [p3.2 h] at hf; cases hf)
    simpa using h)
  clear p3 hf
  generalize refF c = rf at *
  have hci : (c : Int) < 23 := by omega
  have hci0 : 0 ≤ (c : Int) := by omega
  have hci1 : (c : Int) ≤ 255 := by omega
  clear hln hld s hx h8 hst
  generalize x.r.getD 16 0 = pc at *
  generalize hZC : zeroSe.cells = ZC at *
  have hZC := Lib.hid hZC
  have hzs : ZC.toArray.size = 26 := by simpa using HZL.out
  have hzn : ¬ ZC.toArray = #[] := fun h => by rw [h] at hzs; simp at hzs
  generalize hXC : x.cells = XC at *
  have hXC := Lib.hid hXC
  go_enter Tryd.func18, Tryd.ntmps18
  go_upto_region 1 with (fail)
  generalize hw1 : (w.alloc (.cells _ 26)).alloc _ = w1 at *
  clear hw1 hzs hzn hz
  have c23 := R.out.s.cellAt (hXC.out ▸ G23.out)
  go_upto_region 4 with (first
    | (refine wpList_load_mid rfl 26 (.tmp 4) rfl w.heap.size 0 rfl XC _ (hXC.out ▸ range_all R.out.s) Tryd.underlying26 rfl I0.out ?_)
    | (go_at_call 17; refine (LC.out _).mono ?_; rintro e w2 ⟨rfl, b2⟩; have R2 := Lib.hid (R.out.step b2); clear b2))
  clear R LC c23
  have c16 := R2.out.s.cellAt (hXC.out ▸ G16.out)
  go_upto_region 8 with (first
    | (refine wpList_load_mid rfl 26 (.tmp 4) rfl w.heap.size 0 rfl XC _ (hXC.out ▸ range_all R2.out.s) Tryd.underlying26 rfl I0.out ?_)
    | (go_at_call 26; refine (GC.out _ R2.out.m).mono ?_; rintro e w3 ⟨rfl, b3⟩; have R3 := Lib.hid (R2.out.step b3); clear b3))
  clear R2 GC c16
  go_upto_region 18 with (go_at_call 12; refine (FC.out _).mono ?_; rintro e w4 ⟨rfl, b4⟩; have R4 := Lib.hid (R3.out.step b4); clear b4)
  clear FC R3
  go_upto_region 19 with (first
    | (go_at_call 27; refine (RR.out _).mono ?_; rintro e w5 ⟨rfl, b5⟩; have R5 := Lib.hid (R4.out.step b5); clear b5)
    | (go_at_call 13; refine (RW.out _).mono ?_; rintro e w6 ⟨rfl, b6⟩; have R6 := Lib.hid (R5.out.step b6); clear b6))
  have RA := Lib.hid (hXC.out ▸ range_all R6.out.s)
  have YL := Lib.hid TO.out.len
  have I2 := Lib.hid (info_se TO.out)
  have HO := Lib.hid (Se.one y)
  go_wp2_with (first
    | (refine wpList_load_mid rfl 26 (.tmp 4) rfl w.heap.size 0 rfl XC _ RA.out Tryd.underlying26 rfl I0.out ?_)
    | (go_at_call 25; refine (TC.out _).mono ?_; rintro e w8 ⟨rfl, b8⟩; have R8 := Lib.hid (R6.out.step b8); have F := Lib.hid (R8.out.fin TO.out tk 1); clear b8)
    | (refine wpList_store_mid rfl 26 (.tmp 8) (.tmp 114) rfl (w.heap.size + 1) 0 y.cells.toArray rfl rfl (there_of_blk R8.out.z ?s1) ?s2 ?s3 ?_))
  case s1 => have h1 := zero_ok.len; have h2 := YL.out; simp; omega
  case s2 => simpa using I2.out
  case s3 => first | exact HO.out | exact all_oneCell_toArray HO.out
  refine bodyPost_ret (v := .tuple #[.agg y.cells.toArray, .int .u8 (tk : Int), .int .u64 1]) (results_ctt Tryd.results18 _ _ (w.heap.size + 1) y.cells _ rfl F.out.2 Tryd.underlying26 rfl I2.out) rfl F.out.1
end Go.Proofs.YtjlodddlbgpcdaaDoor.Walks
