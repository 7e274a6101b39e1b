/- Walks through the functions of the statement, and the statement over them: each contract says what the call answers and that nothing else changes. -/
import Derived.Test.YtjlodddlbgpcdaaDoorProg
import Derived.Test.YtjlodddlbgpcdaaDoorBits
import Derived.Test.YtjlodddlbgpcdaaDoorHeap
import Derived.Test.YtjlodddlbgpcdaaDoorAid
import Derived.Test.YtjlodddlbgpcdaaDoorArr
import Derived.Test.YtjlodddlbgpcdaaDoorEql
import Derived.Test.YtjlodddlbgpcdaaDoorWalkBase
import Derived.Test.YtjlodddlbgpcdaaDoorWalkCode
import Derived.Test.YtjlodddlbgpcdaaDoorWalkSeat
import Derived.Test.YtjlodddlbgpcdaaDoorWalkRef
import Derived.Test.YtjlodddlbgpcdaaDoorWalkRefR
import Derived.Test.YtjlodddlbgpcdaaDoorWalkBus
import Derived.Test.YtjlodddlbgpcdaaDoorWalkBus2
import Derived.Test.YtjlodddlbgpcdaaDoorWalkRefP
import Derived.Test.YtjlodddlbgpcdaaDoorWalkRefG
import Derived.Test.YtjlodddlbgpcdaaDoorWalkRefL
import Derived.Test.YtjlodddlbgpcdaaDoorWalkDo
import Derived.Test.YtjlodddlbgpcdaaDoorWalkDo2
import Derived.Test.YtjlodddlbgpcdaaDoorWalkStep
import Derived.Test.YtjlodddlbgpcdaaDoorWalkSome
import Derived.Test.YtjlodddlbgpcdaaDoorWalkAwake
import Derived.Test.YtjlodddlbgpcdaaDoorWalkNil
import Derived.Test.YtjlodddlbgpcdaaDoorWalkPl
import Derived.Test.YtjlodddlbgpcdaaDoorWalkRs0
import Derived.Lib.Hide
import Derived.WalkKit
import Derived.WalkSpells
import Derived.WalkLawsBesides
import Derived.Deep.QuietTactic
import Derived.BigQuiet
import Derived.Deep.RegionHeld3
import Derived.Deep.DeepCutAuto
import Derived.Deep.CutBlock
import Derived.Lib.SlBytesConst
import Derived.StillTailTactics
import Derived.RegionTactic
import Derived.Deep.RegionLaw
import Derived.Laws.BytesString
import Derived.Laws.MakeOwn
import Derived.Deep.AppendLies
import Derived.Laws.CopyOwn
import Derived.Maps.AppendAt
import Derived.Deep.Upon
import Derived.Deep.AppendSrc
import Derived.Shelf.Abstract
import Derived.Shelf.Spec.TrailingZeros
namespace Go.Proofs.YtjlodddlbgpcdaaDoor.Walks
set_option linter.unusedVariables false
set_option linter.unusedSimpArgs false
open Go.RowKit Go.Proofs.YtjlodddlbgpcdaaDoor.Bits Go.Proofs.YtjlodddlbgpcdaaDoor.Heap Go.Proofs.YtjlodddlbgpcdaaDoor.Aid Go.Proofs.YtjlodddlbgpcdaaDoor.Arr Go.Proofs.YtjlodddlbgpcdaaDoor.Eql

set_option maxRecDepth 8000 in
set_option maxHeartbeats 8000000 in
theorem rs_rdt {B mb : Nat} {pv : Nat → Value} {M : Me} {w : World} (x : Se) (hx : x.Ok) (h8 : x.Ok8) (s : Mm B mb pv M w) (time me : Int) (hst : x.st = 0) (hln : lineL x = -1) (v : Nat) (hv : v < 2 ^ 32) (hld : loadL M (x.r.getD 17 0) (x.r.getD 16 0) 4 = some v) (a b : Nat) (n : Int) (ha : a < 16) (hb16 : b < 16) (hn : -32768 ≤ n ∧ n ≤ 32767) (hr : rightB ((18 : Nat) : Int) a b ((0 : Nat) : Int) n = true) (hw : wordF 18 a b 0 n = v) (qc : (v : Int) / 67108864 = 18) (qa : (v : Int) / 4194304 % 16 = a) (qb : (v : Int) / 262144 % 16 = b) (qn : IntKind.i16.wrap ((v : Int) % 65536) = n) (hn9 : 0 ≤ n ∧ n < 9) (ht : 0 ≤ time ∧ time < 18446744073709551616) (hop : x.op = true) :
    Calls Tryd.prog 18 #[.agg x.cells.toArray, .pointer (some ⟨mb, 0, none⟩), .int .u64 time, .int .i64 me] w (RStepP B mb pv ⟨(x.reg a (getN x n time me)).reg 16 (nxN x), M, 0, 0⟩ w) := by
  have R := Lib.hid (Rs.new (x := x) s)
  have LC := Lib.hid (fun W => refLine_calls x hx h8 W)
  rw [hln] at LC
  have GC := Lib.hid (fun W (h : Mm B mb pv M W) => refGet_calls x hx h (x.r.getD 16 0) 4 (getD_lt hx 16) (.inl rfl))
  rw [hld] at GC
  simp only [loadE] at GC
  have hz := zero_val
  have HZL := Lib.hid zero_ok.len
  have HX := Lib.hid hx
  have I0 := Lib.hid (info_se hx)
  have I26 := Lib.hid size26
  have XL := Lib.hid hx.len
  have ZL := Lib.hid (fun (a : Nat) (ha : a < 26) => ha)
  have G16 := Lib.hid (hx.gr (i := 16) (by decide))
  have G23 := Lib.hid hx.g23
  rw [hst] at G23
  have FC : Hid (∀ W, Calls Tryd.prog 12 #[.int .u8 18] W fun e w' => e = .returned (.int .i64 9) ∧ Below W.heap.size W w') := fun W => refFields_calls 18 (by decide) W
  have RR : Hid (∀ W, Calls Tryd.prog 27 #[.int .u8 18, .int .u8 (a : Int), .int .u8 (b : Int), .int .u8 0, .int .i16 n] W fun e w' => e = .returned (.bool true) ∧ Below W.heap.size W w') := fun W => hr ▸ refRight_calls 18 a b 0 n W
  have RW : Hid (∀ W, Calls Tryd.prog 13 #[.int .u8 18, .int .u8 (a : Int), .int .u8 (b : Int), .int .u8 0, .int .i16 n] W fun e w' => e = .returned (.int .u32 (v : Int)) ∧ Below W.heap.size W w') := fun W => hw ▸ refWord_calls 18 a b 0 n (by decide) ha hb16 (by decide) W
  clear hr hw
  have HA := Lib.hid ha
  have HB := Lib.hid hb16
  have hwk := kN_wrap n
  have KL := Lib.hid (kN_lt n)
  have hwx := nx_wrap x
  have NL := Lib.hid (nx_lt x)
  have GA := Lib.hid (hx.gr (i := a) (by omega))
  have GB := Lib.hid (hx.gr (i := b) (by omega))
  have GD := Lib.hid (hx.gr (i := 0) (by omega))
  have HVA := Lib.hid (getD_lt hx a)
  have HVB := Lib.hid (getD_lt hx b)
  have HVD := Lib.hid (getD_lt hx 0)
  have hai : (a : Int) ≤ 15 := by omega
  have hbi : (b : Int) ≤ 15 := by omega
  have hai0 : 0 ≤ (a : Int) := by omega
  have hbi0 : 0 ≤ (b : Int) := by omega
  have hai1 : (a : Int) < 16 := by omega
  have hbi1 : (b : Int) < 16 := by omega
  have hai2 : ¬ (a : Int) < 0 := by omega
  have hbi2 : ¬ (b : Int) < 0 := by omega
  have G17 := Lib.hid (hx.gr (i := 17) (by decide))
  have G18 := Lib.hid (hx.gr (i := 18) (by decide))
  have G19 := Lib.hid (hx.gr (i := 19) (by decide))
  have G20 := Lib.hid (hx.gr (i := 20) (by decide))
  have G21 := Lib.hid (hx.gr (i := 21) (by decide))
  have G22 := Lib.hid hx.g22
  have G25 := Lib.hid hx.g25
  rw [hop] at G22
  have hma : (x.ma : Int) ≤ 4294967295 := by have := hx.m; omega
  have hma0 : 0 ≤ (x.ma : Int) := by omega
  have GL := Lib.hid (getN_lt hx (n := n) (me := me) ht)
  obtain ⟨mw, hmw⟩ : ∃ q, IntKind.u64.wrap me = q := ⟨_, rfl⟩
  have GV := Lib.hid (getN_at x n time me mw hn9 ht.1 hmw (1) hop)
  generalize getN x n time me = gv at *
  have hn0 : 0 ≤ n := hn9.1
  have hn1 : n < 9 := hn9.2
  have hn2 : ¬ n < 0 := by omega
  have hn3 : n ≤ 8 := by omega
  clear hn9 hop ht
  generalize x.r.getD 17 0 = v17 at *
  generalize x.r.getD 18 0 = v18 at *
  generalize x.r.getD 19 0 = v19 at *
  generalize x.r.getD 20 0 = v20 at *
  generalize x.r.getD 21 0 = v21 at *
  generalize (x.ma : Int) = ma at *
  generalize kN n = kk at *
  generalize nxN x = nx at *
  generalize x.r.getD a 0 = va at *
  generalize x.r.getD b 0 = vb at *
  generalize x.r.getD 0 0 = vd at *
  clear hln hld s hx h8 hst
  generalize x.r.getD 16 0 = pc at *
  generalize hZC : zeroSe.cells = ZC at *
  have hZC := Lib.hid hZC
  have hzs : ZC.toArray.size = 26 := by simpa using HZL.out
  have hzn : ¬ ZC.toArray = #[] := fun h => by rw [h] at hzs; simp at hzs
  generalize hXC : x.cells = XC at *
  have hXC := Lib.hid hXC
  go_enter Tryd.func18, Tryd.ntmps18
  go_upto_region 1 with (fail)
  generalize hw1 : (w.alloc (.cells _ 26)).alloc _ = w1 at *
  clear hw1 hzs hzn hz
  have c23 := R.out.s.cellAt (hXC.out ▸ G23.out)
  go_upto_region 4 with (first
    | (refine wpList_load_mid rfl 26 (.tmp 4) rfl w.heap.size 0 rfl XC _ (hXC.out ▸ range_all R.out.s) Tryd.underlying26 rfl I0.out ?_)
    | (go_at_call 17; refine (LC.out _).mono ?_; rintro e w2 ⟨rfl, b2⟩; have R2 := Lib.hid (R.out.step b2); clear b2))
  clear R LC c23
  have c16 := R2.out.s.cellAt (hXC.out ▸ G16.out)
  go_upto_region 8 with (first
    | (refine wpList_load_mid rfl 26 (.tmp 4) rfl w.heap.size 0 rfl XC _ (hXC.out ▸ range_all R2.out.s) Tryd.underlying26 rfl I0.out ?_)
    | (go_at_call 26; refine (GC.out _ R2.out.m).mono ?_; rintro e w3 ⟨rfl, b3⟩; have R3 := Lib.hid (R2.out.step b3); clear b3))
  clear R2 GC c16
  go_upto_region 18 with (go_at_call 12; refine (FC.out _).mono ?_; rintro e w4 ⟨rfl, b4⟩; have R4 := Lib.hid (R3.out.step b4); clear b4)
  clear FC R3
  go_upto_region 20 with (first
    | (go_at_call 27; refine (RR.out _).mono ?_; rintro e w5 ⟨rfl, b5⟩; have R5 := Lib.hid (R4.out.step b5); clear b5)
    | (go_at_call 13; refine (RW.out _).mono ?_; rintro e w6 ⟨rfl, b6⟩; have R6 := Lib.hid (R5.out.step b6); clear b6))
  clear R4 R5 RR RW
  have c16 := R6.out.s.cellAt (hXC.out ▸ G16.out)
  have cA := R6.out.s.cellAt (hXC.out ▸ GA.out)
  have cB := R6.out.s.cellAt (hXC.out ▸ GB.out)
  have cD := R6.out.s.cellAt (hXC.out ▸ GD.out)
  have c17 := R6.out.s.cellAt (hXC.out ▸ G17.out)
  have c18 := R6.out.s.cellAt (hXC.out ▸ G18.out)
  have c19 := R6.out.s.cellAt (hXC.out ▸ G19.out)
  have c20 := R6.out.s.cellAt (hXC.out ▸ G20.out)
  have c21 := R6.out.s.cellAt (hXC.out ▸ G21.out)
  have c22 := R6.out.s.cellAt (hXC.out ▸ G22.out)
  have c25 := R6.out.s.cellAt (hXC.out ▸ G25.out)
  go_upto_region 72 with (fail)
  have b7 := (Below.refl w6.heap.size w6).alloc (Nat.le_refl _) (.cells #[.int .u64 (v17 : Int), .int .u64 (v18 : Int), .int .u64 (v19 : Int), .int .u64 (v20 : Int), .int .u64 (v21 : Int), .int .u64 ma, .int .u64 1, .int .u64 time, .int .u64 mw] 22)
  have R7 := Lib.hid (R6.out.step b7)
  have hcell := (Blk.new w6 #[.int .u64 (v17 : Int), .int .u64 (v18 : Int), .int .u64 (v19 : Int), .int .u64 (v20 : Int), .int .u64 (v21 : Int), .int .u64 ma, .int .u64 1, .int .u64 time, .int .u64 mw] 22).cellAt GV.out
  have tA := R7.out.s.cellAt (hXC.out ▸ GA.out)
  have ftA := R7.out.s.unfrozen a
  have E1 := Lib.hid (R7.out.reg HX.out (a := a) (by have := HA.out; omega) gv)
  clear b7 R7
  go_upto_region 103 with (fail)
  generalize World.setCell _ _ _ = w7 at *
  have OK1 := Lib.hid (show (x.reg a gv).Ok from HX.out.reg (a := a) GL.out)
  have t16 := E1.out.s.cellAt (OK1.out.gr (i := 16) (by decide))
  have tf := E1.out.s.unfrozen 16
  have E2 := Lib.hid (E1.out.reg OK1.out (a := 16) (by decide) nx)
  have OK2 := Lib.hid (OK1.out.reg (a := 16) (v := nx) NL.out)
  clear E1 OK1
  go_upto_region 104 with (fail)
  have F := Lib.hid (E2.out.fin OK2.out 0 0)
  have RA := Lib.hid (range_all E2.out.s)
  have RZ := Lib.hid E2.out.z
  rw [hZC.out] at RZ
  have I2 := Lib.hid (info_se OK2.out)
  have HO := Lib.hid (Se.one ((x.reg a gv).reg 16 nx))
  have YL := Lib.hid OK2.out.len
  generalize hw9 : World.setCell _ _ _ = w9 at *
  clear hw9
  clear E2
  generalize ((x.reg a gv).reg 16 nx).cells = YC at *
  go_wp2_with (first
    | (refine wpList_load_mid rfl 26 (.tmp 4) rfl w.heap.size 0 rfl YC _ RA.out Tryd.underlying26 rfl I2.out ?_)
    | (refine wpList_store_mid rfl 26 (.tmp 8) (.tmp 410) rfl (w.heap.size + 1) 0 YC.toArray rfl rfl (there_of_blk RZ.out ?s1) ?s2 ?s3 ?_))
  case s1 => have h1 := HZL.out; have h2 := YL.out; simp; omega
  case s2 => simpa using I2.out
  case s3 => first | exact HO.out | exact all_oneCell_toArray HO.out
  refine bodyPost_ret (v := .tuple #[.agg YC.toArray, .int .u8 0, .int .u64 0]) (results_ctt Tryd.results18 _ _ (w.heap.size + 1) YC _ rfl F.out.2 Tryd.underlying26 rfl I2.out) rfl F.out.1
set_option maxRecDepth 8000 in
set_option maxHeartbeats 8000000 in
theorem rs_rdf {B mb : Nat} {pv : Nat → Value} {M : Me} {w : World} (x : Se) (hx : x.Ok) (h8 : x.Ok8) (s : Mm B mb pv M w) (time me : Int) (hst : x.st = 0) (hln : lineL x = -1) (v : Nat) (hv : v < 2 ^ 32) (hld : loadL M (x.r.getD 17 0) (x.r.getD 16 0) 4 = some v) (a b : Nat) (n : Int) (ha : a < 16) (hb16 : b < 16) (hn : -32768 ≤ n ∧ n ≤ 32767) (hr : rightB ((18 : Nat) : Int) a b ((0 : Nat) : Int) n = true) (hw : wordF 18 a b 0 n = v) (qc : (v : Int) / 67108864 = 18) (qa : (v : Int) / 4194304 % 16 = a) (qb : (v : Int) / 262144 % 16 = b) (qn : IntKind.i16.wrap ((v : Int) % 65536) = n) (hn9 : 0 ≤ n ∧ n < 9) (ht : 0 ≤ time ∧ time < 18446744073709551616) (hop : x.op = false) :
    Calls Tryd.prog 18 #[.agg x.cells.toArray, .pointer (some ⟨mb, 0, none⟩), .int .u64 time, .int .i64 me] w (RStepP B mb pv ⟨(x.reg a (getN x n time me)).reg 16 (nxN x), M, 0, 0⟩ w) := by
  have R := Lib.hid (Rs.new (x := x) s)
  have LC := Lib.hid (fun W => refLine_calls x hx h8 W)
  rw [hln] at LC
  have GC := Lib.hid (fun W (h : Mm B mb pv M W) => refGet_calls x hx h (x.r.getD 16 0) 4 (getD_lt hx 16) (.inl rfl))
  rw [hld] at GC
  simp only [loadE] at GC
  have hz := zero_val
  have HZL := Lib.hid zero_ok.len
  have HX := Lib.hid hx
  have I0 := Lib.hid (info_se hx)
  have I26 := Lib.hid size26
  have XL := Lib.hid hx.len
  have ZL := Lib.hid (fun (a : Nat) (ha : a < 26) => ha)
  have G16 := Lib.hid (hx.gr (i := 16) (by decide))
  have G23 := Lib.hid hx.g23
  rw [hst] at G23
  have FC : Hid (∀ W, Calls Tryd.prog 12 #[.int .u8 18] W fun e w' => e = .returned (.int .i64 9) ∧ Below W.heap.size W w') := fun W => refFields_calls 18 (by decide) W
  have RR : Hid (∀ W, Calls Tryd.prog 27 #[.int .u8 18, .int .u8 (a : Int), .int .u8 (b : Int), .int .u8 0, .int .i16 n] W fun e w' => e = .returned (.bool true) ∧ Below W.heap.size W w') := fun W => hr ▸ refRight_calls 18 a b 0 n W
  have RW : Hid (∀ W, Calls Tryd.prog 13 #[.int .u8 18, .int .u8 (a : Int), .int .u8 (b : Int), .int .u8 0, .int .i16 n] W fun e w' => e = .returned (.int .u32 (v : Int)) ∧ Below W.heap.size W w') := fun W => hw ▸ refWord_calls 18 a b 0 n (by decide) ha hb16 (by decide) W
  clear hr hw
  have HA := Lib.hid ha
  have HB := Lib.hid hb16
  have hwk := kN_wrap n
  have KL := Lib.hid (kN_lt n)
  have hwx := nx_wrap x
  have NL := Lib.hid (nx_lt x)
  have GA := Lib.hid (hx.gr (i := a) (by omega))
  have GB := Lib.hid (hx.gr (i := b) (by omega))
  have GD := Lib.hid (hx.gr (i := 0) (by omega))
  have HVA := Lib.hid (getD_lt hx a)
  have HVB := Lib.hid (getD_lt hx b)
  have HVD := Lib.hid (getD_lt hx 0)
  have hai : (a : Int) ≤ 15 := by omega
  have hbi : (b : Int) ≤ 15 := by omega
  have hai0 : 0 ≤ (a : Int) := by omega
  have hbi0 : 0 ≤ (b : Int) := by omega
  have hai1 : (a : Int) < 16 := by omega
  have hbi1 : (b : Int) < 16 := by omega
  have hai2 : ¬ (a : Int) < 0 := by omega
  have hbi2 : ¬ (b : Int) < 0 := by omega
  have G17 := Lib.hid (hx.gr (i := 17) (by decide))
  have G18 := Lib.hid (hx.gr (i := 18) (by decide))
  have G19 := Lib.hid (hx.gr (i := 19) (by decide))
  have G20 := Lib.hid (hx.gr (i := 20) (by decide))
  have G21 := Lib.hid (hx.gr (i := 21) (by decide))
  have G22 := Lib.hid hx.g22
  have G25 := Lib.hid hx.g25
  rw [hop] at G22
  have hma : (x.ma : Int) ≤ 4294967295 := by have := hx.m; omega
  have hma0 : 0 ≤ (x.ma : Int) := by omega
  have GL := Lib.hid (getN_lt hx (n := n) (me := me) ht)
  obtain ⟨mw, hmw⟩ : ∃ q, IntKind.u64.wrap me = q := ⟨_, rfl⟩
  have GV := Lib.hid (getN_at x n time me mw hn9 ht.1 hmw (0) hop)
  generalize getN x n time me = gv at *
  have hn0 : 0 ≤ n := hn9.1
  have hn1 : n < 9 := hn9.2
  have hn2 : ¬ n < 0 := by omega
  have hn3 : n ≤ 8 := by omega
  clear hn9 hop ht
  generalize x.r.getD 17 0 = v17 at *
  generalize x.r.getD 18 0 = v18 at *
  generalize x.r.getD 19 0 = v19 at *
  generalize x.r.getD 20 0 = v20 at *
  generalize x.r.getD 21 0 = v21 at *
  generalize (x.ma : Int) = ma at *
  generalize kN n = kk at *
  generalize nxN x = nx at *
  generalize x.r.getD a 0 = va at *
  generalize x.r.getD b 0 = vb at *
  generalize x.r.getD 0 0 = vd at *
  clear hln hld s hx h8 hst
  generalize x.r.getD 16 0 = pc at *
  generalize hZC : zeroSe.cells = ZC at *
  have hZC := Lib.hid hZC
  have hzs : ZC.toArray.size = 26 := by simpa using HZL.out
  have hzn : ¬ ZC.toArray = #[] := fun h => by rw [h] at hzs; simp at hzs
  generalize hXC : x.cells = XC at *
  have hXC := Lib.hid hXC
  go_enter Tryd.func18, Tryd.ntmps18
  go_upto_region 1 with (fail)
  generalize hw1 : (w.alloc (.cells _ 26)).alloc _ = w1 at *
  clear hw1 hzs hzn hz
  have c23 := R.out.s.cellAt (hXC.out ▸ G23.out)
  go_upto_region 4 with (first
    | (refine wpList_load_mid rfl 26 (.tmp 4) rfl w.heap.size 0 rfl XC _ (hXC.out ▸ range_all R.out.s) Tryd.underlying26 rfl I0.out ?_)
    | (go_at_call 17; refine (LC.out _).mono ?_; rintro e w2 ⟨rfl, b2⟩; have R2 := Lib.hid (R.out.step b2); clear b2))
  clear R LC c23
  have c16 := R2.out.s.cellAt (hXC.out ▸ G16.out)
  go_upto_region 8 with (first
    | (refine wpList_load_mid rfl 26 (.tmp 4) rfl w.heap.size 0 rfl XC _ (hXC.out ▸ range_all R2.out.s) Tryd.underlying26 rfl I0.out ?_)
    | (go_at_call 26; refine (GC.out _ R2.out.m).mono ?_; rintro e w3 ⟨rfl, b3⟩; have R3 := Lib.hid (R2.out.step b3); clear b3))
  clear R2 GC c16
  go_upto_region 18 with (go_at_call 12; refine (FC.out _).mono ?_; rintro e w4 ⟨rfl, b4⟩; have R4 := Lib.hid (R3.out.step b4); clear b4)
  clear FC R3
  go_upto_region 20 with (first
    | (go_at_call 27; refine (RR.out _).mono ?_; rintro e w5 ⟨rfl, b5⟩; have R5 := Lib.hid (R4.out.step b5); clear b5)
    | (go_at_call 13; refine (RW.out _).mono ?_; rintro e w6 ⟨rfl, b6⟩; have R6 := Lib.hid (R5.out.step b6); clear b6))
  clear R4 R5 RR RW
  have c16 := R6.out.s.cellAt (hXC.out ▸ G16.out)
  have cA := R6.out.s.cellAt (hXC.out ▸ GA.out)
  have cB := R6.out.s.cellAt (hXC.out ▸ GB.out)
  have cD := R6.out.s.cellAt (hXC.out ▸ GD.out)
  have c17 := R6.out.s.cellAt (hXC.out ▸ G17.out)
  have c18 := R6.out.s.cellAt (hXC.out ▸ G18.out)
  have c19 := R6.out.s.cellAt (hXC.out ▸ G19.out)
  have c20 := R6.out.s.cellAt (hXC.out ▸ G20.out)
  have c21 := R6.out.s.cellAt (hXC.out ▸ G21.out)
  have c22 := R6.out.s.cellAt (hXC.out ▸ G22.out)
  have c25 := R6.out.s.cellAt (hXC.out ▸ G25.out)
  go_upto_region 72 with (fail)
  have b7 := (Below.refl w6.heap.size w6).alloc (Nat.le_refl _) (.cells #[.int .u64 (v17 : Int), .int .u64 (v18 : Int), .int .u64 (v19 : Int), .int .u64 (v20 : Int), .int .u64 (v21 : Int), .int .u64 ma, .int .u64 0, .int .u64 time, .int .u64 mw] 22)
  have R7 := Lib.hid (R6.out.step b7)
  have hcell := (Blk.new w6 #[.int .u64 (v17 : Int), .int .u64 (v18 : Int), .int .u64 (v19 : Int), .int .u64 (v20 : Int), .int .u64 (v21 : Int), .int .u64 ma, .int .u64 0, .int .u64 time, .int .u64 mw] 22).cellAt GV.out
  have tA := R7.out.s.cellAt (hXC.out ▸ GA.out)
  have ftA := R7.out.s.unfrozen a
  have E1 := Lib.hid (R7.out.reg HX.out (a := a) (by have := HA.out; omega) gv)
  clear b7 R7
  go_upto_region 103 with (fail)
  generalize World.setCell _ _ _ = w7 at *
  have OK1 := Lib.hid (show (x.reg a gv).Ok from HX.out.reg (a := a) GL.out)
  have t16 := E1.out.s.cellAt (OK1.out.gr (i := 16) (by decide))
  have tf := E1.out.s.unfrozen 16
  have E2 := Lib.hid (E1.out.reg OK1.out (a := 16) (by decide) nx)
  have OK2 := Lib.hid (OK1.out.reg (a := 16) (v := nx) NL.out)
  clear E1 OK1
  go_upto_region 104 with (fail)
  have F := Lib.hid (E2.out.fin OK2.out 0 0)
  have RA := Lib.hid (range_all E2.out.s)
  have RZ := Lib.hid E2.out.z
  rw [hZC.out] at RZ
  have I2 := Lib.hid (info_se OK2.out)
  have HO := Lib.hid (Se.one ((x.reg a gv).reg 16 nx))
  have YL := Lib.hid OK2.out.len
  generalize hw9 : World.setCell _ _ _ = w9 at *
  clear hw9
  clear E2
  generalize ((x.reg a gv).reg 16 nx).cells = YC at *
  go_wp2_with (first
    | (refine wpList_load_mid rfl 26 (.tmp 4) rfl w.heap.size 0 rfl YC _ RA.out Tryd.underlying26 rfl I2.out ?_)
    | (refine wpList_store_mid rfl 26 (.tmp 8) (.tmp 410) rfl (w.heap.size + 1) 0 YC.toArray rfl rfl (there_of_blk RZ.out ?s1) ?s2 ?s3 ?_))
  case s1 => have h1 := HZL.out; have h2 := YL.out; simp; omega
  case s2 => simpa using I2.out
  case s3 => first | exact HO.out | exact all_oneCell_toArray HO.out
  refine bodyPost_ret (v := .tuple #[.agg YC.toArray, .int .u8 0, .int .u64 0]) (results_ctt Tryd.results18 _ _ (w.heap.size + 1) YC _ rfl F.out.2 Tryd.underlying26 rfl I2.out) rfl F.out.1
set_option maxRecDepth 8000 in
set_option maxHeartbeats 8000000 in
theorem rs_wr0 {B mb : Nat} {pv : Nat → Value} {M : Me} {w : World} (x : Se) (hx : x.Ok) (h8 : x.Ok8) (s : Mm B mb pv M w) (time me : Int) (hst : x.st = 0) (hln : lineL x = -1) (v : Nat) (hv : v < 2 ^ 32) (hld : loadL M (x.r.getD 17 0) (x.r.getD 16 0) 4 = some v) (a b : Nat) (ha : a < 16) (hb16 : b < 16) (hr : rightB ((19 : Nat) : Int) a b ((0 : Nat) : Int) 0 = true) (hw : wordF 19 a b 0 0 = v) (qc : (v : Int) / 67108864 = 19) (qa : (v : Int) / 4194304 % 16 = a) (qb : (v : Int) / 262144 % 16 = b) (qn : IntKind.i16.wrap ((v : Int) % 65536) = 0) :
    Calls Tryd.prog 18 #[.agg x.cells.toArray, .pointer (some ⟨mb, 0, none⟩), .int .u64 time, .int .i64 me] w (RStepP B mb pv ⟨(x.reg 17 (x.r.getD a 0)).reg 16 (nxN x), M, 0, 0⟩ w) := by
  have R := Lib.hid (Rs.new (x := x) s)
  have LC := Lib.hid (fun W => refLine_calls x hx h8 W)
  rw [hln] at LC
  have GC := Lib.hid (fun W (h : Mm B mb pv M W) => refGet_calls x hx h (x.r.getD 16 0) 4 (getD_lt hx 16) (.inl rfl))
  rw [hld] at GC
  simp only [loadE] at GC
  have hz := zero_val
  have HZL := Lib.hid zero_ok.len
  have HX := Lib.hid hx
  have I0 := Lib.hid (info_se hx)
  have I26 := Lib.hid size26
  have XL := Lib.hid hx.len
  have ZL := Lib.hid (fun (a : Nat) (ha : a < 26) => ha)
  have G16 := Lib.hid (hx.gr (i := 16) (by decide))
  have G23 := Lib.hid hx.g23
  rw [hst] at G23
  have FC : Hid (∀ W, Calls Tryd.prog 12 #[.int .u8 19] W fun e w' => e = .returned (.int .i64 9) ∧ Below W.heap.size W w') := fun W => refFields_calls 19 (by decide) W
  have RR : Hid (∀ W, Calls Tryd.prog 27 #[.int .u8 19, .int .u8 (a : Int), .int .u8 (b : Int), .int .u8 0, .int .i16 0] W fun e w' => e = .returned (.bool true) ∧ Below W.heap.size W w') := fun W => hr ▸ refRight_calls 19 a b 0 0 W
  have RW : Hid (∀ W, Calls Tryd.prog 13 #[.int .u8 19, .int .u8 (a : Int), .int .u8 (b : Int), .int .u8 0, .int .i16 0] W fun e w' => e = .returned (.int .u32 (v : Int)) ∧ Below W.heap.size W w') := fun W => hw ▸ refWord_calls 19 a b 0 0 (by decide) ha hb16 (by decide) W
  clear hr hw
  have HA := Lib.hid ha
  have HB := Lib.hid hb16
  have hwx := nx_wrap x
  have NL := Lib.hid (nx_lt x)
  have GA := Lib.hid (hx.gr (i := a) (by omega))
  have GB := Lib.hid (hx.gr (i := b) (by omega))
  have GD := Lib.hid (hx.gr (i := 0) (by omega))
  have HVA := Lib.hid (getD_lt hx a)
  have HVB := Lib.hid (getD_lt hx b)
  have HVD := Lib.hid (getD_lt hx 0)
  have hai : (a : Int) ≤ 15 := by omega
  have hbi : (b : Int) ≤ 15 := by omega
  have hai0 : 0 ≤ (a : Int) := by omega
  have hbi0 : 0 ≤ (b : Int) := by omega
  have hai1 : (a : Int) < 16 := by omega
  have hbi1 : (b : Int) < 16 := by omega
  have hai2 : ¬ (a : Int) < 0 := by omega
  have hbi2 : ¬ (b : Int) < 0 := by omega
  have GK := Lib.hid (hx.gr (i := 17) (by decide))
  generalize nxN x = nx at *
  generalize x.r.getD a 0 = va at *
  generalize x.r.getD b 0 = vb at *
  generalize x.r.getD 0 0 = vd at *
  clear hln hld s hx h8 hst
  generalize x.r.getD 16 0 = pc at *
  generalize hZC : zeroSe.cells = ZC at *
  have hZC := Lib.hid hZC
  have hzs : ZC.toArray.size = 26 := by simpa using HZL.out
  have hzn : ¬ ZC.toArray = #[] := fun h => by rw [h] at hzs; simp at hzs
  generalize hXC : x.cells = XC at *
  have hXC := Lib.hid hXC
  go_enter Tryd.func18, Tryd.ntmps18
  go_upto_region 1 with (fail)
  generalize hw1 : (w.alloc (.cells _ 26)).alloc _ = w1 at *
  clear hw1 hzs hzn hz
  have c23 := R.out.s.cellAt (hXC.out ▸ G23.out)
  go_upto_region 4 with (first
    | (refine wpList_load_mid rfl 26 (.tmp 4) rfl w.heap.size 0 rfl XC _ (hXC.out ▸ range_all R.out.s) Tryd.underlying26 rfl I0.out ?_)
    | (go_at_call 17; refine (LC.out _).mono ?_; rintro e w2 ⟨rfl, b2⟩; have R2 := Lib.hid (R.out.step b2); clear b2))
  clear R LC c23
  have c16 := R2.out.s.cellAt (hXC.out ▸ G16.out)
  go_upto_region 8 with (first
    | (refine wpList_load_mid rfl 26 (.tmp 4) rfl w.heap.size 0 rfl XC _ (hXC.out ▸ range_all R2.out.s) Tryd.underlying26 rfl I0.out ?_)
    | (go_at_call 26; refine (GC.out _ R2.out.m).mono ?_; rintro e w3 ⟨rfl, b3⟩; have R3 := Lib.hid (R2.out.step b3); clear b3))
  clear R2 GC c16
  go_upto_region 18 with (go_at_call 12; refine (FC.out _).mono ?_; rintro e w4 ⟨rfl, b4⟩; have R4 := Lib.hid (R3.out.step b4); clear b4)
  clear FC R3
  go_upto_region 20 with (first
    | (go_at_call 27; refine (RR.out _).mono ?_; rintro e w5 ⟨rfl, b5⟩; have R5 := Lib.hid (R4.out.step b5); clear b5)
    | (go_at_call 13; refine (RW.out _).mono ?_; rintro e w6 ⟨rfl, b6⟩; have R6 := Lib.hid (R5.out.step b6); clear b6))
  clear R4 R5 RR RW
  have c16 := R6.out.s.cellAt (hXC.out ▸ G16.out)
  have cA := R6.out.s.cellAt (hXC.out ▸ GA.out)
  have cB := R6.out.s.cellAt (hXC.out ▸ GB.out)
  have cD := R6.out.s.cellAt (hXC.out ▸ GD.out)
  have fK := R6.out.s.unfrozen 17
  have cK := R6.out.s.cellAt (hXC.out ▸ GK.out)
  have E1 := Lib.hid (R6.out.reg HX.out (a := 17) (by decide) va)
  go_upto_region 103 with (fail)
  generalize World.setCell _ _ _ = w7 at *
  have OK1 := Lib.hid (show (x.reg 17 va).Ok from HX.out.reg (a := 17) HVA.out)
  have t16 := E1.out.s.cellAt (OK1.out.gr (i := 16) (by decide))
  have tf := E1.out.s.unfrozen 16
  have E2 := Lib.hid (E1.out.reg OK1.out (a := 16) (by decide) nx)
  have OK2 := Lib.hid (OK1.out.reg (a := 16) (v := nx) NL.out)
  clear E1 OK1
  go_upto_region 104 with (fail)
  have F := Lib.hid (E2.out.fin OK2.out 0 0)
  have RA := Lib.hid (range_all E2.out.s)
  have RZ := Lib.hid E2.out.z
  rw [hZC.out] at RZ
  have I2 := Lib.hid (info_se OK2.out)
  have HO := Lib.hid (Se.one ((x.reg 17 va).reg 16 nx))
  have YL := Lib.hid OK2.out.len
  generalize hw9 : World.setCell _ _ _ = w9 at *
  clear hw9
  clear E2
  generalize ((x.reg 17 va).reg 16 nx).cells = YC at *
  go_wp2_with (first
    | (refine wpList_load_mid rfl 26 (.tmp 4) rfl w.heap.size 0 rfl YC _ RA.out Tryd.underlying26 rfl I2.out ?_)
    | (refine wpList_store_mid rfl 26 (.tmp 8) (.tmp 410) rfl (w.heap.size + 1) 0 YC.toArray rfl rfl (there_of_blk RZ.out ?s1) ?s2 ?s3 ?_))
  case s1 => have h1 := HZL.out; have h2 := YL.out; simp; omega
  case s2 => simpa using I2.out
  case s3 => first | exact HO.out | exact all_oneCell_toArray HO.out
  refine bodyPost_ret (v := .tuple #[.agg YC.toArray, .int .u8 0, .int .u64 0]) (results_ctt Tryd.results18 _ _ (w.heap.size + 1) YC _ rfl F.out.2 Tryd.underlying26 rfl I2.out) rfl F.out.1
set_option maxRecDepth 8000 in
set_option maxHeartbeats 8000000 in
theorem rs_wr1 {B mb : Nat} {pv : Nat → Value} {M : Me} {w : World} (x : Se) (hx : x.Ok) (h8 : x.Ok8) (s : Mm B mb pv M w) (time me : Int) (hst : x.st = 0) (hln : lineL x = -1) (v : Nat) (hv : v < 2 ^ 32) (hld : loadL M (x.r.getD 17 0) (x.r.getD 16 0) 4 = some v) (a b : Nat) (ha : a < 16) (hb16 : b < 16) (hr : rightB ((19 : Nat) : Int) a b ((0 : Nat) : Int) 1 = true) (hw : wordF 19 a b 0 1 = v) (qc : (v : Int) / 67108864 = 19) (qa : (v : Int) / 4194304 % 16 = a) (qb : (v : Int) / 262144 % 16 = b) (qn : IntKind.i16.wrap ((v : Int) % 65536) = 1) :
    Calls Tryd.prog 18 #[.agg x.cells.toArray, .pointer (some ⟨mb, 0, none⟩), .int .u64 time, .int .i64 me] w (RStepP B mb pv ⟨(x.reg 18 (x.r.getD a 0)).reg 16 (nxN x), M, 0, 0⟩ w) := by
  have R := Lib.hid (Rs.new (x := x) s)
  have LC := Lib.hid (fun W => refLine_calls x hx h8 W)
  rw [hln] at LC
  have GC := Lib.hid (fun W (h : Mm B mb pv M W) => refGet_calls x hx h (x.r.getD 16 0) 4 (getD_lt hx 16) (.inl rfl))
  rw [hld] at GC
  simp only [loadE] at GC
  have hz := zero_val
  have HZL := Lib.hid zero_ok.len
  have HX := Lib.hid hx
  have I0 := Lib.hid (info_se hx)
  have I26 := Lib.hid size26
  have XL := Lib.hid hx.len
  have ZL := Lib.hid (fun (a : Nat) (ha : a < 26) => ha)
  have G16 := Lib.hid (hx.gr (i := 16) (by decide))
  have G23 := Lib.hid hx.g23
  rw [hst] at G23
  have FC : Hid (∀ W, Calls Tryd.prog 12 #[.int .u8 19] W fun e w' => e = .returned (.int .i64 9) ∧ Below W.heap.size W w') := fun W => refFields_calls 19 (by decide) W
  have RR : Hid (∀ W, Calls Tryd.prog 27 #[.int .u8 19, .int .u8 (a : Int), .int .u8 (b : Int), .int .u8 0, .int .i16 1] W fun e w' => e = .returned (.bool true) ∧ Below W.heap.size W w') := fun W => hr ▸ refRight_calls 19 a b 0 1 W
  have RW : Hid (∀ W, Calls Tryd.prog 13 #[.int .u8 19, .int .u8 (a : Int), .int .u8 (b : Int), .int .u8 0, .int .i16 1] W fun e w' => e = .returned (.int .u32 (v : Int)) ∧ Below W.heap.size W w') := fun W => hw ▸ refWord_calls 19 a b 0 1 (by decide) ha hb16 (by decide) W
  clear hr hw
  have HA := Lib.hid ha
  have HB := Lib.hid hb16
  have hwx := nx_wrap x
  have NL := Lib.hid (nx_lt x)
  have GA := Lib.hid (hx.gr (i := a) (by omega))
  have GB := Lib.hid (hx.gr (i := b) (by omega))
  have GD := Lib.hid (hx.gr (i := 0) (by omega))
  have HVA := Lib.hid (getD_lt hx a)
  have HVB := Lib.hid (getD_lt hx b)
  have HVD := Lib.hid (getD_lt hx 0)
  have hai : (a : Int) ≤ 15 := by omega
  have hbi : (b : Int) ≤ 15 := by omega
  have hai0 : 0 ≤ (a : Int) := by omega
  have hbi0 : 0 ≤ (b : Int) := by omega
  have hai1 : (a : Int) < 16 := by omega
  have hbi1 : (b : Int) < 16 := by omega
  have hai2 : ¬ (a : Int) < 0 := by omega
  have hbi2 : ¬ (b : Int) < 0 := by omega
  have GK := Lib.hid (hx.gr (i := 18) (by decide))
  generalize nxN x = nx at *
  generalize x.r.getD a 0 = va at *
  generalize x.r.getD b 0 = vb at *
  generalize x.r.getD 0 0 = vd at *
  clear hln hld s hx h8 hst
  generalize x.r.getD 16 0 = pc at *
  generalize hZC : zeroSe.cells = ZC at *
  have hZC := Lib.hid hZC
  have hzs : ZC.toArray.size = 26 := by simpa using HZL.out
  have hzn : ¬ ZC.toArray = #[] := fun h => by rw [h] at hzs; simp at hzs
  generalize hXC : x.cells = XC at *
  have hXC := Lib.hid hXC
  go_enter Tryd.func18, Tryd.ntmps18
  go_upto_region 1 with (fail)
  generalize hw1 : (w.alloc (.cells _ 26)).alloc _ = w1 at *
  clear hw1 hzs hzn hz
  have c23 := R.out.s.cellAt (hXC.out ▸ G23.out)
  go_upto_region 4 with (first
    | (refine wpList_load_mid rfl 26 (.tmp 4) rfl w.heap.size 0 rfl XC _ (hXC.out ▸ range_all R.out.s) Tryd.underlying26 rfl I0.out ?_)
    | (go_at_call 17; refine (LC.out _).mono ?_; rintro e w2 ⟨rfl, b2⟩; have R2 := Lib.hid (R.out.step b2); clear b2))
  clear R LC c23
  have c16 := R2.out.s.cellAt (hXC.out ▸ G16.out)
  go_upto_region 8 with (first
    | (refine wpList_load_mid rfl 26 (.tmp 4) rfl w.heap.size 0 rfl XC _ (hXC.out ▸ range_all R2.out.s) Tryd.underlying26 rfl I0.out ?_)
    | (go_at_call 26; refine (GC.out _ R2.out.m).mono ?_; rintro e w3 ⟨rfl, b3⟩; have R3 := Lib.hid (R2.out.step b3); clear b3))
  clear R2 GC c16
  go_upto_region 18 with (go_at_call 12; refine (FC.out _).mono ?_; rintro e w4 ⟨rfl, b4⟩; have R4 := Lib.hid (R3.out.step b4); clear b4)
  clear FC R3
  go_upto_region 20 with (first
    | (go_at_call 27; refine (RR.out _).mono ?_; rintro e w5 ⟨rfl, b5⟩; have R5 := Lib.hid (R4.out.step b5); clear b5)
    | (go_at_call 13; refine (RW.out _).mono ?_; rintro e w6 ⟨rfl, b6⟩; have R6 := Lib.hid (R5.out.step b6); clear b6))
  clear R4 R5 RR RW
  have c16 := R6.out.s.cellAt (hXC.out ▸ G16.out)
  have cA := R6.out.s.cellAt (hXC.out ▸ GA.out)
  have cB := R6.out.s.cellAt (hXC.out ▸ GB.out)
  have cD := R6.out.s.cellAt (hXC.out ▸ GD.out)
  have fK := R6.out.s.unfrozen 18
  have cK := R6.out.s.cellAt (hXC.out ▸ GK.out)
  have E1 := Lib.hid (R6.out.reg HX.out (a := 18) (by decide) va)
  go_upto_region 103 with (fail)
  generalize World.setCell _ _ _ = w7 at *
  have OK1 := Lib.hid (show (x.reg 18 va).Ok from HX.out.reg (a := 18) HVA.out)
  have t16 := E1.out.s.cellAt (OK1.out.gr (i := 16) (by decide))
  have tf := E1.out.s.unfrozen 16
  have E2 := Lib.hid (E1.out.reg OK1.out (a := 16) (by decide) nx)
  have OK2 := Lib.hid (OK1.out.reg (a := 16) (v := nx) NL.out)
  clear E1 OK1
  go_upto_region 104 with (fail)
  have F := Lib.hid (E2.out.fin OK2.out 0 0)
  have RA := Lib.hid (range_all E2.out.s)
  have RZ := Lib.hid E2.out.z
  rw [hZC.out] at RZ
  have I2 := Lib.hid (info_se OK2.out)
  have HO := Lib.hid (Se.one ((x.reg 18 va).reg 16 nx))
  have YL := Lib.hid OK2.out.len
  generalize hw9 : World.setCell _ _ _ = w9 at *
  clear hw9
  clear E2
  generalize ((x.reg 18 va).reg 16 nx).cells = YC at *
  go_wp2_with (first
    | (refine wpList_load_mid rfl 26 (.tmp 4) rfl w.heap.size 0 rfl YC _ RA.out Tryd.underlying26 rfl I2.out ?_)
    | (refine wpList_store_mid rfl 26 (.tmp 8) (.tmp 410) rfl (w.heap.size + 1) 0 YC.toArray rfl rfl (there_of_blk RZ.out ?s1) ?s2 ?s3 ?_))
  case s1 => have h1 := HZL.out; have h2 := YL.out; simp; omega
  case s2 => simpa using I2.out
  case s3 => first | exact HO.out | exact all_oneCell_toArray HO.out
  refine bodyPost_ret (v := .tuple #[.agg YC.toArray, .int .u8 0, .int .u64 0]) (results_ctt Tryd.results18 _ _ (w.heap.size + 1) YC _ rfl F.out.2 Tryd.underlying26 rfl I2.out) rfl F.out.1
set_option maxRecDepth 8000 in
set_option maxHeartbeats 8000000 in
theorem rs_wr2 {B mb : Nat} {pv : Nat → Value} {M : Me} {w : World} (x : Se) (hx : x.Ok) (h8 : x.Ok8) (s : Mm B mb pv M w) (time me : Int) (hst : x.st = 0) (hln : lineL x = -1) (v : Nat) (hv : v < 2 ^ 32) (hld : loadL M (x.r.getD 17 0) (x.r.getD 16 0) 4 = some v) (a b : Nat) (ha : a < 16) (hb16 : b < 16) (hr : rightB ((19 : Nat) : Int) a b ((0 : Nat) : Int) 2 = true) (hw : wordF 19 a b 0 2 = v) (qc : (v : Int) / 67108864 = 19) (qa : (v : Int) / 4194304 % 16 = a) (qb : (v : Int) / 262144 % 16 = b) (qn : IntKind.i16.wrap ((v : Int) % 65536) = 2) :
    Calls Tryd.prog 18 #[.agg x.cells.toArray, .pointer (some ⟨mb, 0, none⟩), .int .u64 time, .int .i64 me] w (RStepP B mb pv ⟨(x.reg 19 (x.r.getD a 0)).reg 16 (nxN x), M, 0, 0⟩ w) := by
  have R := Lib.hid (Rs.new (x := x) s)
  have LC := Lib.hid (fun W => refLine_calls x hx h8 W)
  rw [hln] at LC
  have GC := Lib.hid (fun W (h : Mm B mb pv M W) => refGet_calls x hx h (x.r.getD 16 0) 4 (getD_lt hx 16) (.inl rfl))
  rw [hld] at GC
  simp only [loadE] at GC
  have hz := zero_val
  have HZL := Lib.hid zero_ok.len
  have HX := Lib.hid hx
  have I0 := Lib.hid (info_se hx)
  have I26 := Lib.hid size26
  have XL := Lib.hid hx.len
  have ZL := Lib.hid (fun (a : Nat) (ha : a < 26) => ha)
  have G16 := Lib.hid (hx.gr (i := 16) (by decide))
  have G23 := Lib.hid hx.g23
  rw [hst] at G23
  have FC : Hid (∀ W, Calls Tryd.prog 12 #[.int .u8 19] W fun e w' => e = .returned (.int .i64 9) ∧ Below W.heap.size W w') := fun W => refFields_calls 19 (by decide) W
  have RR : Hid (∀ W, Calls Tryd.prog 27 #[.int .u8 19, .int .u8 (a : Int), .int .u8 (b : Int), .int .u8 0, .int .i16 2] W fun e w' => e = .returned (.bool true) ∧ Below W.heap.size W w') := fun W => hr ▸ refRight_calls 19 a b 0 2 W
  have RW : Hid (∀ W, Calls Tryd.prog 13 #[.int .u8 19, .int .u8 (a : Int), .int .u8 (b : Int), .int .u8 0, .int .i16 2] W fun e w' => e = .returned (.int .u32 (v : Int)) ∧ Below W.heap.size W w') := fun W => hw ▸ refWord_calls 19 a b 0 2 (by decide) ha hb16 (by decide) W
  clear hr hw
  have HA := Lib.hid ha
  have HB := Lib.hid hb16
  have hwx := nx_wrap x
  have NL := Lib.hid (nx_lt x)
  have GA := Lib.hid (hx.gr (i := a) (by omega))
  have GB := Lib.hid (hx.gr (i := b) (by omega))
  have GD := Lib.hid (hx.gr (i := 0) (by omega))
  have HVA := Lib.hid (getD_lt hx a)
  have HVB := Lib.hid (getD_lt hx b)
  have HVD := Lib.hid (getD_lt hx 0)
  have hai : (a : Int) ≤ 15 := by omega
  have hbi : (b : Int) ≤ 15 := by omega
  have hai0 : 0 ≤ (a : Int) := by omega
  have hbi0 : 0 ≤ (b : Int) := by omega
  have hai1 : (a : Int) < 16 := by omega
  have hbi1 : (b : Int) < 16 := by omega
  have hai2 : ¬ (a : Int) < 0 := by omega
  have hbi2 : ¬ (b : Int) < 0 := by omega
  have GK := Lib.hid (hx.gr (i := 19) (by decide))
  generalize nxN x = nx at *
  generalize x.r.getD a 0 = va at *
  generalize x.r.getD b 0 = vb at *
  generalize x.r.getD 0 0 = vd at *
  clear hln hld s hx h8 hst
  generalize x.r.getD 16 0 = pc at *
  generalize hZC : zeroSe.cells = ZC at *
  have hZC := Lib.hid hZC
  have hzs : ZC.toArray.size = 26 := by simpa using HZL.out
  have hzn : ¬ ZC.toArray = #[] := fun h => by rw [h] at hzs; simp at hzs
  generalize hXC : x.cells = XC at *
  have hXC := Lib.hid hXC
  go_enter Tryd.func18, Tryd.ntmps18
  go_upto_region 1 with (fail)
  generalize hw1 : (w.alloc (.cells _ 26)).alloc _ = w1 at *
  clear hw1 hzs hzn hz
  have c23 := R.out.s.cellAt (hXC.out ▸ G23.out)
  go_upto_region 4 with (first
    | (refine wpList_load_mid rfl 26 (.tmp 4) rfl w.heap.size 0 rfl XC _ (hXC.out ▸ range_all R.out.s) Tryd.underlying26 rfl I0.out ?_)
    | (go_at_call 17; refine (LC.out _).mono ?_; rintro e w2 ⟨rfl, b2⟩; have R2 := Lib.hid (R.out.step b2); clear b2))
  clear R LC c23
  have c16 := R2.out.s.cellAt (hXC.out ▸ G16.out)
  go_upto_region 8 with (first
    | (refine wpList_load_mid rfl 26 (.tmp 4) rfl w.heap.size 0 rfl XC _ (hXC.out ▸ range_all R2.out.s) Tryd.underlying26 rfl I0.out ?_)
    | (go_at_call 26; refine (GC.out _ R2.out.m).mono ?_; rintro e w3 ⟨rfl, b3⟩; have R3 := Lib.hid (R2.out.step b3); clear b3))
  clear R2 GC c16
  go_upto_region 18 with (go_at_call 12; refine (FC.out _).mono ?_; rintro e w4 ⟨rfl, b4⟩; have R4 := Lib.hid (R3.out.step b4); clear b4)
  clear FC R3
  go_upto_region 20 with (first
    | (go_at_call 27; refine (RR.out _).mono ?_; rintro e w5 ⟨rfl, b5⟩; have R5 := Lib.hid (R4.out.step b5); clear b5)
    | (go_at_call 13; refine (RW.out _).mono ?_; rintro e w6 ⟨rfl, b6⟩; have R6 := Lib.hid (R5.out.step b6); clear b6))
  clear R4 R5 RR RW
  have c16 := R6.out.s.cellAt (hXC.out ▸ G16.out)
  have cA := R6.out.s.cellAt (hXC.out ▸ GA.out)
  have cB := R6.out.s.cellAt (hXC.out ▸ GB.out)
  have cD := R6.out.s.cellAt (hXC.out ▸ GD.out)
  have fK := R6.out.s.unfrozen 19
  have cK := R6.out.s.cellAt (hXC.out ▸ GK.out)
  have E1 := Lib.hid (R6.out.reg HX.out (a := 19) (by decide) va)
  go_upto_region 103 with (fail)
  generalize World.setCell _ _ _ = w7 at *
  have OK1 := Lib.hid (show (x.reg 19 va).Ok from HX.out.reg (a := 19) HVA.out)
  have t16 := E1.out.s.cellAt (OK1.out.gr (i := 16) (by decide))
  have tf := E1.out.s.unfrozen 16
  have E2 := Lib.hid (E1.out.reg OK1.out (a := 16) (by decide) nx)
  have OK2 := Lib.hid (OK1.out.reg (a := 16) (v := nx) NL.out)
  clear E1 OK1
  go_upto_region 104 with (fail)
  have F := Lib.hid (E2.out.fin OK2.out 0 0)
  have RA := Lib.hid (range_all E2.out.s)
  have RZ := Lib.hid E2.out.z
  rw [hZC.out] at RZ
  have I2 := Lib.hid (info_se OK2.out)
  have HO := Lib.hid (Se.one ((x.reg 19 va).reg 16 nx))
  have YL := Lib.hid OK2.out.len
  generalize hw9 : World.setCell _ _ _ = w9 at *
  clear hw9
  clear E2
  generalize ((x.reg 19 va).reg 16 nx).cells = YC at *
  go_wp2_with (first
    | (refine wpList_load_mid rfl 26 (.tmp 4) rfl w.heap.size 0 rfl YC _ RA.out Tryd.underlying26 rfl I2.out ?_)
    | (refine wpList_store_mid rfl 26 (.tmp 8) (.tmp 410) rfl (w.heap.size + 1) 0 YC.toArray rfl rfl (there_of_blk RZ.out ?s1) ?s2 ?s3 ?_))
  case s1 => have h1 := HZL.out; have h2 := YL.out; simp; omega
  case s2 => simpa using I2.out
  case s3 => first | exact HO.out | exact all_oneCell_toArray HO.out
  refine bodyPost_ret (v := .tuple #[.agg YC.toArray, .int .u8 0, .int .u64 0]) (results_ctt Tryd.results18 _ _ (w.heap.size + 1) YC _ rfl F.out.2 Tryd.underlying26 rfl I2.out) rfl F.out.1
set_option maxRecDepth 8000 in
set_option maxHeartbeats 8000000 in
theorem rs_wr3 {B mb : Nat} {pv : Nat → Value} {M : Me} {w : World} (x : Se) (hx : x.Ok) (h8 : x.Ok8) (s : Mm B mb pv M w) (time me : Int) (hst : x.st = 0) (hln : lineL x = -1) (v : Nat) (hv : v < 2 ^ 32) (hld : loadL M (x.r.getD 17 0) (x.r.getD 16 0) 4 = some v) (a b : Nat) (ha : a < 16) (hb16 : b < 16) (hr : rightB ((19 : Nat) : Int) a b ((0 : Nat) : Int) 3 = true) (hw : wordF 19 a b 0 3 = v) (qc : (v : Int) / 67108864 = 19) (qa : (v : Int) / 4194304 % 16 = a) (qb : (v : Int) / 262144 % 16 = b) (qn : IntKind.i16.wrap ((v : Int) % 65536) = 3) :
    Calls Tryd.prog 18 #[.agg x.cells.toArray, .pointer (some ⟨mb, 0, none⟩), .int .u64 time, .int .i64 me] w (RStepP B mb pv ⟨(x.reg 20 (x.r.getD a 0)).reg 16 (nxN x), M, 0, 0⟩ w) := by
  have R := Lib.hid (Rs.new (x := x) s)
  have LC := Lib.hid (fun W => refLine_calls x hx h8 W)
  rw [hln] at LC
  have GC := Lib.hid (fun W (h : Mm B mb pv M W) => refGet_calls x hx h (x.r.getD 16 0) 4 (getD_lt hx 16) (.inl rfl))
  rw [hld] at GC
  simp only [loadE] at GC
  have hz := zero_val
  have HZL := Lib.hid zero_ok.len
  have HX := Lib.hid hx
  have I0 := Lib.hid (info_se hx)
  have I26 := Lib.hid size26
  have XL := Lib.hid hx.len
  have ZL := Lib.hid (fun (a : Nat) (ha : a < 26) => ha)
  have G16 := Lib.hid (hx.gr (i := 16) (by decide))
  have G23 := Lib.hid hx.g23
  rw [hst] at G23
  have FC : Hid (∀ W, Calls Tryd.prog 12 #[.int .u8 19] W fun e w' => e = .returned (.int .i64 9) ∧ Below W.heap.size W w') := fun W => refFields_calls 19 (by decide) W
  have RR : Hid (∀ W, Calls Tryd.prog 27 #[.int .u8 19, .int .u8 (a : Int), .int .u8 (b : Int), .int .u8 0, .int .i16 3] W fun e w' => e = .returned (.bool true) ∧ Below W.heap.size W w') := fun W => hr ▸ refRight_calls 19 a b 0 3 W
  have RW : Hid (∀ W, Calls Tryd.prog 13 #[.int .u8 19, .int .u8 (a : Int), .int .u8 (b : Int), .int .u8 0, .int .i16 3] W fun e w' => e = .returned (.int .u32 (v : Int)) ∧ Below W.heap.size W w') := fun W => hw ▸ refWord_calls 19 a b 0 3 (by decide) ha hb16 (by decide) W
  clear hr hw
  have HA := Lib.hid ha
  have HB := Lib.hid hb16
  have hwx := nx_wrap x
  have NL := Lib.hid (nx_lt x)
  have GA := Lib.hid (hx.gr (i := a) (by omega))
  have GB := Lib.hid (hx.gr (i := b) (by omega))
  have GD := Lib.hid (hx.gr (i := 0) (by omega))
  have HVA := Lib.hid (getD_lt hx a)
  have HVB := Lib.hid (getD_lt hx b)
  have HVD := Lib.hid (getD_lt hx 0)
  have hai : (a : Int) ≤ 15 := by omega
  have hbi : (b : Int) ≤ 15 := by omega
  have hai0 : 0 ≤ (a : Int) := by omega
  have hbi0 : 0 ≤ (b : Int) := by omega
  have hai1 : (a : Int) < 16 := by omega
  have hbi1 : (b : Int) < 16 := by omega
  have hai2 : ¬ (a : Int) < 0 := by omega
  have hbi2 : ¬ (b : Int) < 0 := by omega
  have GK := Lib.hid (hx.gr (i := 20) (by decide))
  generalize nxN x = nx at *
  generalize x.r.getD a 0 = va at *
  generalize x.r.getD b 0 = vb at *
  generalize x.r.getD 0 0 = vd at *
  clear hln hld s hx h8 hst
  generalize x.r.getD 16 0 = pc at *
  generalize hZC : zeroSe.cells = ZC at *
  have hZC := Lib.hid hZC
  have hzs : ZC.toArray.size = 26 := by simpa using HZL.out
  have hzn : ¬ ZC.toArray = #[] := fun h => by rw [h] at hzs; simp at hzs
  generalize hXC : x.cells = XC at *
  have hXC := Lib.hid hXC
  go_enter Tryd.func18, Tryd.ntmps18
  go_upto_region 1 with (fail)
  generalize hw1 : (w.alloc (.cells _ 26)).alloc _ = w1 at *
  clear hw1 hzs hzn hz
  have c23 := R.out.s.cellAt (hXC.out ▸ G23.out)
  go_upto_region 4 with (first
    | (refine wpList_load_mid rfl 26 (.tmp 4) rfl w.heap.size 0 rfl XC _ (hXC.out ▸ range_all R.out.s) Tryd.underlying26 rfl I0.out ?_)
    | (go_at_call 17; refine (LC.out _).mono ?_; rintro e w2 ⟨rfl, b2⟩; have R2 := Lib.hid (R.out.step b2); clear b2))
  clear R LC c23
  have c16 := R2.out.s.cellAt (hXC.out ▸ G16.out)
  go_upto_region 8 with (first
    | (refine wpList_load_mid rfl 26 (.tmp 4) rfl w.heap.size 0 rfl XC _ (hXC.out ▸ range_all R2.out.s) Tryd.underlying26 rfl I0.out ?_)
    | (go_at_call 26; refine (GC.out _ R2.out.m).mono ?_; rintro e w3 ⟨rfl, b3⟩; have R3 := Lib.hid (R2.out.step b3); clear b3))
  clear R2 GC c16
  go_upto_region 18 with (go_at_call 12; refine (FC.out _).mono ?_; rintro e w4 ⟨rfl, b4⟩; have R4 := Lib.hid (R3.out.step b4); clear b4)
  clear FC R3
  go_upto_region 20 with (first
    | (go_at_call 27; refine (RR.out _).mono ?_; rintro e w5 ⟨rfl, b5⟩; have R5 := Lib.hid (R4.out.step b5); clear b5)
    | (go_at_call 13; refine (RW.out _).mono ?_; rintro e w6 ⟨rfl, b6⟩; have R6 := Lib.hid (R5.out.step b6); clear b6))
  clear R4 R5 RR RW
  have c16 := R6.out.s.cellAt (hXC.out ▸ G16.out)
  have cA := R6.out.s.cellAt (hXC.out ▸ GA.out)
  have cB := R6.out.s.cellAt (hXC.out ▸ GB.out)
  have cD := R6.out.s.cellAt (hXC.out ▸ GD.out)
  have fK := R6.out.s.unfrozen 20
  have cK := R6.out.s.cellAt (hXC.out ▸ GK.out)
  have E1 := Lib.hid (R6.out.reg HX.out (a := 20) (by decide) va)
  go_upto_region 103 with (fail)
  generalize World.setCell _ _ _ = w7 at *
  have OK1 := Lib.hid (show (x.reg 20 va).Ok from HX.out.reg (a := 20) HVA.out)
  have t16 := E1.out.s.cellAt (OK1.out.gr (i := 16) (by decide))
  have tf := E1.out.s.unfrozen 16
  have E2 := Lib.hid (E1.out.reg OK1.out (a := 16) (by decide) nx)
  have OK2 := Lib.hid (OK1.out.reg (a := 16) (v := nx) NL.out)
  clear E1 OK1
  go_upto_region 104 with (fail)
  have F := Lib.hid (E2.out.fin OK2.out 0 0)
  have RA := Lib.hid (range_all E2.out.s)
  have RZ := Lib.hid E2.out.z
  rw [hZC.out] at RZ
  have I2 := Lib.hid (info_se OK2.out)
  have HO := Lib.hid (Se.one ((x.reg 20 va).reg 16 nx))
  have YL := Lib.hid OK2.out.len
  generalize hw9 : World.setCell _ _ _ = w9 at *
  clear hw9
  clear E2
  generalize ((x.reg 20 va).reg 16 nx).cells = YC at *
  go_wp2_with (first
    | (refine wpList_load_mid rfl 26 (.tmp 4) rfl w.heap.size 0 rfl YC _ RA.out Tryd.underlying26 rfl I2.out ?_)
    | (refine wpList_store_mid rfl 26 (.tmp 8) (.tmp 410) rfl (w.heap.size + 1) 0 YC.toArray rfl rfl (there_of_blk RZ.out ?s1) ?s2 ?s3 ?_))
  case s1 => have h1 := HZL.out; have h2 := YL.out; simp; omega
  case s2 => simpa using I2.out
  case s3 => first | exact HO.out | exact all_oneCell_toArray HO.out
  refine bodyPost_ret (v := .tuple #[.agg YC.toArray, .int .u8 0, .int .u64 0]) (results_ctt Tryd.results18 _ _ (w.heap.size + 1) YC _ rfl F.out.2 Tryd.underlying26 rfl I2.out) rfl F.out.1
set_option maxRecDepth 8000 in
set_option maxHeartbeats 8000000 in
theorem rs_wr4 {B mb : Nat} {pv : Nat → Value} {M : Me} {w : World} (x : Se) (hx : x.Ok) (h8 : x.Ok8) (s : Mm B mb pv M w) (time me : Int) (hst : x.st = 0) (hln : lineL x = -1) (v : Nat) (hv : v < 2 ^ 32) (hld : loadL M (x.r.getD 17 0) (x.r.getD 16 0) 4 = some v) (a b : Nat) (ha : a < 16) (hb16 : b < 16) (hr : rightB ((19 : Nat) : Int) a b ((0 : Nat) : Int) 4 = true) (hw : wordF 19 a b 0 4 = v) (qc : (v : Int) / 67108864 = 19) (qa : (v : Int) / 4194304 % 16 = a) (qb : (v : Int) / 262144 % 16 = b) (qn : IntKind.i16.wrap ((v : Int) % 65536) = 4) :
    Calls Tryd.prog 18 #[.agg x.cells.toArray, .pointer (some ⟨mb, 0, none⟩), .int .u64 time, .int .i64 me] w (RStepP B mb pv ⟨(x.reg 21 (x.r.getD a 0)).reg 16 (nxN x), M, 0, 0⟩ w) := by
  have R := Lib.hid (Rs.new (x := x) s)
  have LC := Lib.hid (fun W => refLine_calls x hx h8 W)
  rw [hln] at LC
  have GC := Lib.hid (fun W (h : Mm B mb pv M W) => refGet_calls x hx h (x.r.getD 16 0) 4 (getD_lt hx 16) (.inl rfl))
  rw [hld] at GC
  simp only [loadE] at GC
  have hz := zero_val
  have HZL := Lib.hid zero_ok.len
  have HX := Lib.hid hx
  have I0 := Lib.hid (info_se hx)
  have I26 := Lib.hid size26
  have XL := Lib.hid hx.len
  have ZL := Lib.hid (fun (a : Nat) (ha : a < 26) => ha)
  have G16 := Lib.hid (hx.gr (i := 16) (by decide))
  have G23 := Lib.hid hx.g23
  rw [hst] at G23
  have FC : Hid (∀ W, Calls Tryd.prog 12 #[.int .u8 19] W fun e w' => e = .returned (.int .i64 9) ∧ Below W.heap.size W w') := fun W => refFields_calls 19 (by decide) W
  have RR : Hid (∀ W, Calls Tryd.prog 27 #[.int .u8 19, .int .u8 (a : Int), .int .u8 (b : Int), .int .u8 0, .int .i16 4] W fun e w' => e = .returned (.bool true) ∧ Below W.heap.size W w') := fun W => hr ▸ refRight_calls 19 a b 0 4 W
  have RW : Hid (∀ W, Calls Tryd.prog 13 #[.int .u8 19, .int .u8 (a : Int), .int .u8 (b : Int), .int .u8 0, .int .i16 4] W fun e w' => e = .returned (.int .u32 (v : Int)) ∧ Below W.heap.size W w') := fun W => hw ▸ refWord_calls 19 a b 0 4 (by decide) ha hb16 (by decide) W
  clear hr hw
  have HA := Lib.hid ha
  have HB := Lib.hid hb16
  have hwx := nx_wrap x
  have NL := Lib.hid (nx_lt x)
  have GA := Lib.hid (hx.gr (i := a) (by omega))
  have GB := Lib.hid (hx.gr (i := b) (by omega))
  have GD := Lib.hid (hx.gr (i := 0) (by omega))
  have HVA := Lib.hid (getD_lt hx a)
  have HVB := Lib.hid (getD_lt hx b)
  have HVD := Lib.hid (getD_lt hx 0)
  have hai : (a : Int) ≤ 15 := by omega
  have hbi : (b : Int) ≤ 15 := by omega
  have hai0 : 0 ≤ (a : Int) := by omega
  have hbi0 : 0 ≤ (b : Int) := by omega
  have hai1 : (a : Int) < 16 := by omega
  have hbi1 : (b : Int) < 16 := by omega
  have hai2 : ¬ (a : Int) < 0 := by omega
  have hbi2 : ¬ (b : Int) < 0 := by omega
  have GK := Lib.hid (hx.gr (i := 21) (by decide))
  generalize nxN x = nx at *
  generalize x.r.getD a 0 = va at *
  generalize x.r.getD b 0 = vb at *
  generalize x.r.getD 0 0 = vd at *
  clear hln hld s hx h8 hst
  generalize x.r.getD 16 0 = pc at *
  generalize hZC : zeroSe.cells = ZC at *
  have hZC := Lib.hid hZC
  have hzs : ZC.toArray.size = 26 := by simpa using HZL.out
  have hzn : ¬ ZC.toArray = #[] := fun h => by rw [h] at hzs; simp at hzs
  generalize hXC : x.cells = XC at *
  have hXC := Lib.hid hXC
  go_enter Tryd.func18, Tryd.ntmps18
  go_upto_region 1 with (fail)
  generalize hw1 : (w.alloc (.cells _ 26)).alloc _ = w1 at *
  clear hw1 hzs hzn hz
  have c23 := R.out.s.cellAt (hXC.out ▸ G23.out)
  go_upto_region 4 with (first
    | (refine wpList_load_mid rfl 26 (.tmp 4) rfl w.heap.size 0 rfl XC _ (hXC.out ▸ range_all R.out.s) Tryd.underlying26 rfl I0.out ?_)
    | (go_at_call 17; refine (LC.out _).mono ?_; rintro e w2 ⟨rfl, b2⟩; have R2 := Lib.hid (R.out.step b2); clear b2))
  clear R LC c23
  have c16 := R2.out.s.cellAt (hXC.out ▸ G16.out)
  go_upto_region 8 with (first
    | (refine wpList_load_mid rfl 26 (.tmp 4) rfl w.heap.size 0 rfl XC _ (hXC.out ▸ range_all R2.out.s) Tryd.underlying26 rfl I0.out ?_)
    | (go_at_call 26; refine (GC.out _ R2.out.m).mono ?_; rintro e w3 ⟨rfl, b3⟩; have R3 := Lib.hid (R2.out.step b3); clear b3))
  clear R2 GC c16
  go_upto_region 18 with (go_at_call 12; refine (FC.out _).mono ?_; rintro e w4 ⟨rfl, b4⟩; have R4 := Lib.hid (R3.out.step b4); clear b4)
  clear FC R3
  go_upto_region 20 with (first
    | (go_at_call 27; refine (RR.out _).mono ?_; rintro e w5 ⟨rfl, b5⟩; have R5 := Lib.hid (R4.out.step b5); clear b5)
    | (go_at_call 13; refine (RW.out _).mono ?_; rintro e w6 ⟨rfl, b6⟩; have R6 := Lib.hid (R5.out.step b6); clear b6))
  clear R4 R5 RR RW
  have c16 := R6.out.s.cellAt (hXC.out ▸ G16.out)
  have cA := R6.out.s.cellAt (hXC.out ▸ GA.out)
  have cB := R6.out.s.cellAt (hXC.out ▸ GB.out)
  have cD := R6.out.s.cellAt (hXC.out ▸ GD.out)
  have fK := R6.out.s.unfrozen 21
  have cK := R6.out.s.cellAt (hXC.out ▸ GK.out)
  have E1 := Lib.hid (R6.out.reg HX.out (a := 21) (by decide) va)
  go_upto_region 103 with (fail)
  generalize World.setCell _ _ _ = w7 at *
  have OK1 := Lib.hid (show (x.reg 21 va).Ok from HX.out.reg (a := 21) HVA.out)
  have t16 := E1.out.s.cellAt (OK1.out.gr (i := 16) (by decide))
  have tf := E1.out.s.unfrozen 16
  have E2 := Lib.hid (E1.out.reg OK1.out (a := 16) (by decide) nx)
  have OK2 := Lib.hid (OK1.out.reg (a := 16) (v := nx) NL.out)
  clear E1 OK1
  go_upto_region 104 with (fail)
  have F := Lib.hid (E2.out.fin OK2.out 0 0)
  have RA := Lib.hid (range_all E2.out.s)
  have RZ := Lib.hid E2.out.z
  rw [hZC.out] at RZ
  have I2 := Lib.hid (info_se OK2.out)
  have HO := Lib.hid (Se.one ((x.reg 21 va).reg 16 nx))
  have YL := Lib.hid OK2.out.len
  generalize hw9 : World.setCell _ _ _ = w9 at *
  clear hw9
  clear E2
  generalize ((x.reg 21 va).reg 16 nx).cells = YC at *
  go_wp2_with (first
    | (refine wpList_load_mid rfl 26 (.tmp 4) rfl w.heap.size 0 rfl YC _ RA.out Tryd.underlying26 rfl I2.out ?_)
    | (refine wpList_store_mid rfl 26 (.tmp 8) (.tmp 410) rfl (w.heap.size + 1) 0 YC.toArray rfl rfl (there_of_blk RZ.out ?s1) ?s2 ?s3 ?_))
  case s1 => have h1 := HZL.out; have h2 := YL.out; simp; omega
  case s2 => simpa using I2.out
  case s3 => first | exact HO.out | exact all_oneCell_toArray HO.out
  refine bodyPost_ret (v := .tuple #[.agg YC.toArray, .int .u8 0, .int .u64 0]) (results_ctt Tryd.results18 _ _ (w.heap.size + 1) YC _ rfl F.out.2 Tryd.underlying26 rfl I2.out) rfl F.out.1
set_option maxRecDepth 8000 in
set_option maxHeartbeats 8000000 in
theorem rs_wr5 {B mb : Nat} {pv : Nat → Value} {M : Me} {w : World} (x : Se) (hx : x.Ok) (h8 : x.Ok8) (s : Mm B mb pv M w) (time me : Int) (hst : x.st = 0) (hln : lineL x = -1) (v : Nat) (hv : v < 2 ^ 32) (hld : loadL M (x.r.getD 17 0) (x.r.getD 16 0) 4 = some v) (a b : Nat) (ha : a < 16) (hb16 : b < 16) (hr : rightB ((19 : Nat) : Int) a b ((0 : Nat) : Int) 5 = true) (hw : wordF 19 a b 0 5 = v) (qc : (v : Int) / 67108864 = 19) (qa : (v : Int) / 4194304 % 16 = a) (qb : (v : Int) / 262144 % 16 = b) (qn : IntKind.i16.wrap ((v : Int) % 65536) = 5) :
    Calls Tryd.prog 18 #[.agg x.cells.toArray, .pointer (some ⟨mb, 0, none⟩), .int .u64 time, .int .i64 me] w (RStepP B mb pv ⟨({ x with ma := x.r.getD a 0 % 256 } : Se).reg 16 (nxN x), M, 0, 0⟩ w) := by
  have R := Lib.hid (Rs.new (x := x) s)
  have LC := Lib.hid (fun W => refLine_calls x hx h8 W)
  rw [hln] at LC
  have GC := Lib.hid (fun W (h : Mm B mb pv M W) => refGet_calls x hx h (x.r.getD 16 0) 4 (getD_lt hx 16) (.inl rfl))
  rw [hld] at GC
  simp only [loadE] at GC
  have hz := zero_val
  have HZL := Lib.hid zero_ok.len
  have HX := Lib.hid hx
  have I0 := Lib.hid (info_se hx)
  have I26 := Lib.hid size26
  have XL := Lib.hid hx.len
  have ZL := Lib.hid (fun (a : Nat) (ha : a < 26) => ha)
  have G16 := Lib.hid (hx.gr (i := 16) (by decide))
  have G23 := Lib.hid hx.g23
  rw [hst] at G23
  have FC : Hid (∀ W, Calls Tryd.prog 12 #[.int .u8 19] W fun e w' => e = .returned (.int .i64 9) ∧ Below W.heap.size W w') := fun W => refFields_calls 19 (by decide) W
  have RR : Hid (∀ W, Calls Tryd.prog 27 #[.int .u8 19, .int .u8 (a : Int), .int .u8 (b : Int), .int .u8 0, .int .i16 5] W fun e w' => e = .returned (.bool true) ∧ Below W.heap.size W w') := fun W => hr ▸ refRight_calls 19 a b 0 5 W
  have RW : Hid (∀ W, Calls Tryd.prog 13 #[.int .u8 19, .int .u8 (a : Int), .int .u8 (b : Int), .int .u8 0, .int .i16 5] W fun e w' => e = .returned (.int .u32 (v : Int)) ∧ Below W.heap.size W w') := fun W => hw ▸ refWord_calls 19 a b 0 5 (by decide) ha hb16 (by decide) W
  clear hr hw
  have HA := Lib.hid ha
  have HB := Lib.hid hb16
  have hwx := nx_wrap x
  have NL := Lib.hid (nx_lt x)
  have GA := Lib.hid (hx.gr (i := a) (by omega))
  have GB := Lib.hid (hx.gr (i := b) (by omega))
  have GD := Lib.hid (hx.gr (i := 0) (by omega))
  have HVA := Lib.hid (getD_lt hx a)
  have HVB := Lib.hid (getD_lt hx b)
  have HVD := Lib.hid (getD_lt hx 0)
  have hai : (a : Int) ≤ 15 := by omega
  have hbi : (b : Int) ≤ 15 := by omega
  have hai0 : 0 ≤ (a : Int) := by omega
  have hbi0 : 0 ≤ (b : Int) := by omega
  have hai1 : (a : Int) < 16 := by omega
  have hbi1 : (b : Int) < 16 := by omega
  have hai2 : ¬ (a : Int) < 0 := by omega
  have hbi2 : ¬ (b : Int) < 0 := by omega
  have GK := Lib.hid hx.g25
  have hq : ((x.r.getD a 0 : Nat) : Int) % 256 = ((x.r.getD a 0 % 256 : Nat) : Int) := by omega
  have QL := Lib.hid (show x.r.getD a 0 % 256 < 256 by omega)
  generalize x.r.getD a 0 % 256 = q at *
  have hq2 : (q : Int) ≤ 4294967295 := by have := QL.out; omega
  have hq3 : 0 ≤ (q : Int) := by omega
  generalize nxN x = nx at *
  generalize x.r.getD a 0 = va at *
  generalize x.r.getD b 0 = vb at *
  generalize x.r.getD 0 0 = vd at *
  clear hln hld s hx h8 hst
  generalize x.r.getD 16 0 = pc at *
  generalize hZC : zeroSe.cells = ZC at *
  have hZC := Lib.hid hZC
  have hzs : ZC.toArray.size = 26 := by simpa using HZL.out
  have hzn : ¬ ZC.toArray = #[] := fun h => by rw [h] at hzs; simp at hzs
  generalize hXC : x.cells = XC at *
  have hXC := Lib.hid hXC
  go_enter Tryd.func18, Tryd.ntmps18
  go_upto_region 1 with (fail)
  generalize hw1 : (w.alloc (.cells _ 26)).alloc _ = w1 at *
  clear hw1 hzs hzn hz
  have c23 := R.out.s.cellAt (hXC.out ▸ G23.out)
  go_upto_region 4 with (first
    | (refine wpList_load_mid rfl 26 (.tmp 4) rfl w.heap.size 0 rfl XC _ (hXC.out ▸ range_all R.out.s) Tryd.underlying26 rfl I0.out ?_)
    | (go_at_call 17; refine (LC.out _).mono ?_; rintro e w2 ⟨rfl, b2⟩; have R2 := Lib.hid (R.out.step b2); clear b2))
  clear R LC c23
  have c16 := R2.out.s.cellAt (hXC.out ▸ G16.out)
  go_upto_region 8 with (first
    | (refine wpList_load_mid rfl 26 (.tmp 4) rfl w.heap.size 0 rfl XC _ (hXC.out ▸ range_all R2.out.s) Tryd.underlying26 rfl I0.out ?_)
    | (go_at_call 26; refine (GC.out _ R2.out.m).mono ?_; rintro e w3 ⟨rfl, b3⟩; have R3 := Lib.hid (R2.out.step b3); clear b3))
  clear R2 GC c16
  go_upto_region 18 with (go_at_call 12; refine (FC.out _).mono ?_; rintro e w4 ⟨rfl, b4⟩; have R4 := Lib.hid (R3.out.step b4); clear b4)
  clear FC R3
  go_upto_region 20 with (first
    | (go_at_call 27; refine (RR.out _).mono ?_; rintro e w5 ⟨rfl, b5⟩; have R5 := Lib.hid (R4.out.step b5); clear b5)
    | (go_at_call 13; refine (RW.out _).mono ?_; rintro e w6 ⟨rfl, b6⟩; have R6 := Lib.hid (R5.out.step b6); clear b6))
  clear R4 R5 RR RW
  have c16 := R6.out.s.cellAt (hXC.out ▸ G16.out)
  have cA := R6.out.s.cellAt (hXC.out ▸ GA.out)
  have cB := R6.out.s.cellAt (hXC.out ▸ GB.out)
  have cD := R6.out.s.cellAt (hXC.out ▸ GD.out)
  have fK := R6.out.s.unfrozen 25
  have cK := R6.out.s.cellAt (hXC.out ▸ GK.out)
  have E1 := Lib.hid (R6.out.set (x' := { x with ma := q }) 25 (.int .u32 (q : Int)) (HX.out.s25 q))
  go_upto_region 103 with (fail)
  generalize World.setCell _ _ _ = w7 at *
  have OK1 := Lib.hid (show (({ x with ma := q } : Se)).Ok from ⟨HX.out.l, HX.out.w, HX.out.s, HX.out.p, by show q < 2 ^ 32; have := QL.out; omega⟩)
  have t16 := E1.out.s.cellAt (OK1.out.gr (i := 16) (by decide))
  have tf := E1.out.s.unfrozen 16
  have E2 := Lib.hid (E1.out.reg OK1.out (a := 16) (by decide) nx)
  have OK2 := Lib.hid (OK1.out.reg (a := 16) (v := nx) NL.out)
  clear E1 OK1
  go_upto_region 104 with (fail)
  have F := Lib.hid (E2.out.fin OK2.out 0 0)
  have RA := Lib.hid (range_all E2.out.s)
  have RZ := Lib.hid E2.out.z
  rw [hZC.out] at RZ
  have I2 := Lib.hid (info_se OK2.out)
  have HO := Lib.hid (Se.one ((({ x with ma := q } : Se)).reg 16 nx))
  have YL := Lib.hid OK2.out.len
  generalize hw9 : World.setCell _ _ _ = w9 at *
  clear hw9
  clear E2
  generalize ((({ x with ma := q } : Se)).reg 16 nx).cells = YC at *
  go_wp2_with (first
    | (refine wpList_load_mid rfl 26 (.tmp 4) rfl w.heap.size 0 rfl YC _ RA.out Tryd.underlying26 rfl I2.out ?_)
    | (refine wpList_store_mid rfl 26 (.tmp 8) (.tmp 410) rfl (w.heap.size + 1) 0 YC.toArray rfl rfl (there_of_blk RZ.out ?s1) ?s2 ?s3 ?_))
  case s1 => have h1 := HZL.out; have h2 := YL.out; simp; omega
  case s2 => simpa using I2.out
  case s3 => first | exact HO.out | exact all_oneCell_toArray HO.out
  refine bodyPost_ret (v := .tuple #[.agg YC.toArray, .int .u8 0, .int .u64 0]) (results_ctt Tryd.results18 _ _ (w.heap.size + 1) YC _ rfl F.out.2 Tryd.underlying26 rfl I2.out) rfl F.out.1
set_option maxRecDepth 8000 in
set_option maxHeartbeats 8000000 in
theorem rs_wr6 {B mb : Nat} {pv : Nat → Value} {M : Me} {w : World} (x : Se) (hx : x.Ok) (h8 : x.Ok8) (s : Mm B mb pv M w) (time me : Int) (hst : x.st = 0) (hln : lineL x = -1) (v : Nat) (hv : v < 2 ^ 32) (hld : loadL M (x.r.getD 17 0) (x.r.getD 16 0) 4 = some v) (a b : Nat) (ha : a < 16) (hb16 : b < 16) (hr : rightB ((19 : Nat) : Int) a b ((0 : Nat) : Int) 6 = true) (hw : wordF 19 a b 0 6 = v) (qc : (v : Int) / 67108864 = 19) (qa : (v : Int) / 4194304 % 16 = a) (qb : (v : Int) / 262144 % 16 = b) (qn : IntKind.i16.wrap ((v : Int) % 65536) = 6) :
    Calls Tryd.prog 18 #[.agg x.cells.toArray, .pointer (some ⟨mb, 0, none⟩), .int .u64 time, .int .i64 me] w (RStepP B mb pv ⟨({ x with op := decide (x.r.getD a 0 % 2 = 1) } : Se).reg 16 (nxN x), M, 0, 0⟩ w) := by
  have R := Lib.hid (Rs.new (x := x) s)
  have LC := Lib.hid (fun W => refLine_calls x hx h8 W)
  rw [hln] at LC
  have GC := Lib.hid (fun W (h : Mm B mb pv M W) => refGet_calls x hx h (x.r.getD 16 0) 4 (getD_lt hx 16) (.inl rfl))
  rw [hld] at GC
  simp only [loadE] at GC
  have hz := zero_val
  have HZL := Lib.hid zero_ok.len
  have HX := Lib.hid hx
  have I0 := Lib.hid (info_se hx)
  have I26 := Lib.hid size26
  have XL := Lib.hid hx.len
  have ZL := Lib.hid (fun (a : Nat) (ha : a < 26) => ha)
  have G16 := Lib.hid (hx.gr (i := 16) (by decide))
  have G23 := Lib.hid hx.g23
  rw [hst] at G23
  have FC : Hid (∀ W, Calls Tryd.prog 12 #[.int .u8 19] W fun e w' => e = .returned (.int .i64 9) ∧ Below W.heap.size W w') := fun W => refFields_calls 19 (by decide) W
  have RR : Hid (∀ W, Calls Tryd.prog 27 #[.int .u8 19, .int .u8 (a : Int), .int .u8 (b : Int), .int .u8 0, .int .i16 6] W fun e w' => e = .returned (.bool true) ∧ Below W.heap.size W w') := fun W => hr ▸ refRight_calls 19 a b 0 6 W
  have RW : Hid (∀ W, Calls Tryd.prog 13 #[.int .u8 19, .int .u8 (a : Int), .int .u8 (b : Int), .int .u8 0, .int .i16 6] W fun e w' => e = .returned (.int .u32 (v : Int)) ∧ Below W.heap.size W w') := fun W => hw ▸ refWord_calls 19 a b 0 6 (by decide) ha hb16 (by decide) W
  clear hr hw
  have HA := Lib.hid ha
  have HB := Lib.hid hb16
  have hwx := nx_wrap x
  have NL := Lib.hid (nx_lt x)
  have GA := Lib.hid (hx.gr (i := a) (by omega))
  have GB := Lib.hid (hx.gr (i := b) (by omega))
  have GD := Lib.hid (hx.gr (i := 0) (by omega))
  have HVA := Lib.hid (getD_lt hx a)
  have HVB := Lib.hid (getD_lt hx b)
  have HVD := Lib.hid (getD_lt hx 0)
  have hai : (a : Int) ≤ 15 := by omega
  have hbi : (b : Int) ≤ 15 := by omega
  have hai0 : 0 ≤ (a : Int) := by omega
  have hbi0 : 0 ≤ (b : Int) := by omega
  have hai1 : (a : Int) < 16 := by omega
  have hbi1 : (b : Int) < 16 := by omega
  have hai2 : ¬ (a : Int) < 0 := by omega
  have hbi2 : ¬ (b : Int) < 0 := by omega
  have GK := Lib.hid hx.g22
  have hq : (((x.r.getD a 0 : Nat) : Int) % 2 == 1) = decide (x.r.getD a 0 % 2 = 1) := by rw [Bool.eq_iff_iff]; simp; omega
  generalize decide (x.r.getD a 0 % 2 = 1) = q at *
  generalize nxN x = nx at *
  generalize x.r.getD a 0 = va at *
  generalize x.r.getD b 0 = vb at *
  generalize x.r.getD 0 0 = vd at *
  clear hln hld s hx h8 hst
  generalize x.r.getD 16 0 = pc at *
  generalize hZC : zeroSe.cells = ZC at *
  have hZC := Lib.hid hZC
  have hzs : ZC.toArray.size = 26 := by simpa using HZL.out
  have hzn : ¬ ZC.toArray = #[] := fun h => by rw [h] at hzs; simp at hzs
  generalize hXC : x.cells = XC at *
  have hXC := Lib.hid hXC
  go_enter Tryd.func18, Tryd.ntmps18
  go_upto_region 1 with (fail)
  generalize hw1 : (w.alloc (.cells _ 26)).alloc _ = w1 at *
  clear hw1 hzs hzn hz
  have c23 := R.out.s.cellAt (hXC.out ▸ G23.out)
  go_upto_region 4 with (first
    | (refine wpList_load_mid rfl 26 (.tmp 4) rfl w.heap.size 0 rfl XC _ (hXC.out ▸ range_all R.out.s) Tryd.underlying26 rfl I0.out ?_)
    | (go_at_call 17; refine (LC.out _).mono ?_; rintro e w2 ⟨rfl, b2⟩; have R2 := Lib.hid (R.out.step b2); clear b2))
  clear R LC c23
  have c16 := R2.out.s.cellAt (hXC.out ▸ G16.out)
  go_upto_region 8 with (first
    | (refine wpList_load_mid rfl 26 (.tmp 4) rfl w.heap.size 0 rfl XC _ (hXC.out ▸ range_all R2.out.s) Tryd.underlying26 rfl I0.out ?_)
    | (go_at_call 26; refine (GC.out _ R2.out.m).mono ?_; rintro e w3 ⟨rfl, b3⟩; have R3 := Lib.hid (R2.out.step b3); clear b3))
  clear R2 GC c16
  go_upto_region 18 with (go_at_call 12; refine (FC.out _).mono ?_; rintro e w4 ⟨rfl, b4⟩; have R4 := Lib.hid (R3.out.step b4); clear b4)
  clear FC R3
  go_upto_region 20 with (first
    | (go_at_call 27; refine (RR.out _).mono ?_; rintro e w5 ⟨rfl, b5⟩; have R5 := Lib.hid (R4.out.step b5); clear b5)
    | (go_at_call 13; refine (RW.out _).mono ?_; rintro e w6 ⟨rfl, b6⟩; have R6 := Lib.hid (R5.out.step b6); clear b6))
  clear R4 R5 RR RW
  have c16 := R6.out.s.cellAt (hXC.out ▸ G16.out)
  have cA := R6.out.s.cellAt (hXC.out ▸ GA.out)
  have cB := R6.out.s.cellAt (hXC.out ▸ GB.out)
  have cD := R6.out.s.cellAt (hXC.out ▸ GD.out)
  have fK := R6.out.s.unfrozen 22
  have cK := R6.out.s.cellAt (hXC.out ▸ GK.out)
  have E1 := Lib.hid (R6.out.set (x' := { x with op := q }) 22 (.bool q) (HX.out.s22 q))
  go_upto_region 103 with (fail)
  generalize World.setCell _ _ _ = w7 at *
  have OK1 := Lib.hid (show (({ x with op := q } : Se)).Ok from ⟨HX.out.l, HX.out.w, HX.out.s, HX.out.p, HX.out.m⟩)
  have t16 := E1.out.s.cellAt (OK1.out.gr (i := 16) (by decide))
  have tf := E1.out.s.unfrozen 16
  have E2 := Lib.hid (E1.out.reg OK1.out (a := 16) (by decide) nx)
  have OK2 := Lib.hid (OK1.out.reg (a := 16) (v := nx) NL.out)
  clear E1 OK1
  go_upto_region 104 with (fail)
  have F := Lib.hid (E2.out.fin OK2.out 0 0)
  have RA := Lib.hid (range_all E2.out.s)
  have RZ := Lib.hid E2.out.z
  rw [hZC.out] at RZ
  have I2 := Lib.hid (info_se OK2.out)
  have HO := Lib.hid (Se.one ((({ x with op := q } : Se)).reg 16 nx))
  have YL := Lib.hid OK2.out.len
  generalize hw9 : World.setCell _ _ _ = w9 at *
  clear hw9
  clear E2
  generalize ((({ x with op := q } : Se)).reg 16 nx).cells = YC at *
  go_wp2_with (first
    | (refine wpList_load_mid rfl 26 (.tmp 4) rfl w.heap.size 0 rfl YC _ RA.out Tryd.underlying26 rfl I2.out ?_)
    | (refine wpList_store_mid rfl 26 (.tmp 8) (.tmp 410) rfl (w.heap.size + 1) 0 YC.toArray rfl rfl (there_of_blk RZ.out ?s1) ?s2 ?s3 ?_))
  case s1 => have h1 := HZL.out; have h2 := YL.out; simp; omega
  case s2 => simpa using I2.out
  case s3 => first | exact HO.out | exact all_oneCell_toArray HO.out
  refine bodyPost_ret (v := .tuple #[.agg YC.toArray, .int .u8 0, .int .u64 0]) (results_ctt Tryd.results18 _ _ (w.heap.size + 1) YC _ rfl F.out.2 Tryd.underlying26 rfl I2.out) rfl F.out.1
set_option maxRecDepth 8000 in
set_option maxHeartbeats 8000000 in
theorem rs_wr7 {B mb : Nat} {pv : Nat → Value} {M : Me} {w : World} (x : Se) (hx : x.Ok) (h8 : x.Ok8) (s : Mm B mb pv M w) (time me : Int) (hst : x.st = 0) (hln : lineL x = -1) (v : Nat) (hv : v < 2 ^ 32) (hld : loadL M (x.r.getD 17 0) (x.r.getD 16 0) 4 = some v) (a b : Nat) (ha : a < 16) (hb16 : b < 16) (hr : rightB ((19 : Nat) : Int) a b ((0 : Nat) : Int) 7 = true) (hw : wordF 19 a b 0 7 = v) (qc : (v : Int) / 67108864 = 19) (qa : (v : Int) / 4194304 % 16 = a) (qb : (v : Int) / 262144 % 16 = b) (qn : IntKind.i16.wrap ((v : Int) % 65536) = 7) :
    Calls Tryd.prog 18 #[.agg x.cells.toArray, .pointer (some ⟨mb, 0, none⟩), .int .u64 time, .int .i64 me] w (RStepP B mb pv ⟨trapS x 1 (x.r.getD 16 0), M, trapK (trapS x 1 (x.r.getD 16 0)), 1⟩ w) := by
  have R := Lib.hid (Rs.new (x := x) s)
  have LC := Lib.hid (fun W => refLine_calls x hx h8 W)
  rw [hln] at LC
  have GC := Lib.hid (fun W (h : Mm B mb pv M W) => refGet_calls x hx h (x.r.getD 16 0) 4 (getD_lt hx 16) (.inl rfl))
  rw [hld] at GC
  simp only [loadE] at GC
  have hz := zero_val
  have HZL := Lib.hid zero_ok.len
  have HX := Lib.hid hx
  have I0 := Lib.hid (info_se hx)
  have I26 := Lib.hid size26
  have XL := Lib.hid hx.len
  have ZL := Lib.hid (fun (a : Nat) (ha : a < 26) => ha)
  have G16 := Lib.hid (hx.gr (i := 16) (by decide))
  have G23 := Lib.hid hx.g23
  rw [hst] at G23
  have FC : Hid (∀ W, Calls Tryd.prog 12 #[.int .u8 19] W fun e w' => e = .returned (.int .i64 9) ∧ Below W.heap.size W w') := fun W => refFields_calls 19 (by decide) W
  have RR : Hid (∀ W, Calls Tryd.prog 27 #[.int .u8 19, .int .u8 (a : Int), .int .u8 (b : Int), .int .u8 0, .int .i16 7] W fun e w' => e = .returned (.bool true) ∧ Below W.heap.size W w') := fun W => hr ▸ refRight_calls 19 a b 0 7 W
  have RW : Hid (∀ W, Calls Tryd.prog 13 #[.int .u8 19, .int .u8 (a : Int), .int .u8 (b : Int), .int .u8 0, .int .i16 7] W fun e w' => e = .returned (.int .u32 (v : Int)) ∧ Below W.heap.size W w') := fun W => hw ▸ refWord_calls 19 a b 0 7 (by decide) ha hb16 (by decide) W
  clear hr hw
  have HA := Lib.hid ha
  have HB := Lib.hid hb16
  have hwx := nx_wrap x
  have NL := Lib.hid (nx_lt x)
  have GA := Lib.hid (hx.gr (i := a) (by omega))
  have GB := Lib.hid (hx.gr (i := b) (by omega))
  have GD := Lib.hid (hx.gr (i := 0) (by omega))
  have HVA := Lib.hid (getD_lt hx a)
  have HVB := Lib.hid (getD_lt hx b)
  have HVD := Lib.hid (getD_lt hx 0)
  have hai : (a : Int) ≤ 15 := by omega
  have hbi : (b : Int) ≤ 15 := by omega
  have hai0 : 0 ≤ (a : Int) := by omega
  have hbi0 : 0 ≤ (b : Int) := by omega
  have hai1 : (a : Int) < 16 := by omega
  have hbi1 : (b : Int) < 16 := by omega
  have hai2 : ¬ (a : Int) < 0 := by omega
  have hbi2 : ¬ (b : Int) < 0 := by omega
  have TC := Lib.hid (fun W => trapped_calls x hx 1 (x.r.getD 16 0) (by decide) (getD_lt hx 16) W)
  have TO := Lib.hid (trap_ok hx (c := 1) (a := (x.r.getD 16 0)) (by decide) (getD_lt hx 16))
  unfold trappedE at TC
  generalize trapS x 1 (x.r.getD 16 0) = y at *
  generalize hTK : trapK y = tk at *
  have hTK := Lib.hid hTK
  generalize nxN x = nx at *
  generalize x.r.getD a 0 = va at *
  generalize x.r.getD b 0 = vb at *
  generalize x.r.getD 0 0 = vd at *
  clear hln hld s hx h8 hst
  generalize x.r.getD 16 0 = pc at *
  generalize hZC : zeroSe.cells = ZC at *
  have hZC := Lib.hid hZC
  have hzs : ZC.toArray.size = 26 := by simpa using HZL.out
  have hzn : ¬ ZC.toArray = #[] := fun h => by rw [h] at hzs; simp at hzs
  generalize hXC : x.cells = XC at *
  have hXC := Lib.hid hXC
  go_enter Tryd.func18, Tryd.ntmps18
  go_upto_region 1 with (fail)
  generalize hw1 : (w.alloc (.cells _ 26)).alloc _ = w1 at *
  clear hw1 hzs hzn hz
  have c23 := R.out.s.cellAt (hXC.out ▸ G23.out)
  go_upto_region 4 with (first
    | (refine wpList_load_mid rfl 26 (.tmp 4) rfl w.heap.size 0 rfl XC _ (hXC.out ▸ range_all R.out.s) Tryd.underlying26 rfl I0.out ?_)
    | (go_at_call 17; refine (LC.out _).mono ?_; rintro e w2 ⟨rfl, b2⟩; have R2 := Lib.hid (R.out.step b2); clear b2))
  clear R LC c23
  have c16 := R2.out.s.cellAt (hXC.out ▸ G16.out)
  go_upto_region 8 with (first
    | (refine wpList_load_mid rfl 26 (.tmp 4) rfl w.heap.size 0 rfl XC _ (hXC.out ▸ range_all R2.out.s) Tryd.underlying26 rfl I0.out ?_)
    | (go_at_call 26; refine (GC.out _ R2.out.m).mono ?_; rintro e w3 ⟨rfl, b3⟩; have R3 := Lib.hid (R2.out.step b3); clear b3))
  clear R2 GC c16
  go_upto_region 18 with (go_at_call 12; refine (FC.out _).mono ?_; rintro e w4 ⟨rfl, b4⟩; have R4 := Lib.hid (R3.out.step b4); clear b4)
  clear FC R3
  go_upto_region 20 with (first
    | (go_at_call 27; refine (RR.out _).mono ?_; rintro e w5 ⟨rfl, b5⟩; have R5 := Lib.hid (R4.out.step b5); clear b5)
    | (go_at_call 13; refine (RW.out _).mono ?_; rintro e w6 ⟨rfl, b6⟩; have R6 := Lib.hid (R5.out.step b6); clear b6))
  clear R4 R5 RR RW
  have c16 := R6.out.s.cellAt (hXC.out ▸ G16.out)
  have cA := R6.out.s.cellAt (hXC.out ▸ GA.out)
  have cB := R6.out.s.cellAt (hXC.out ▸ GB.out)
  have cD := R6.out.s.cellAt (hXC.out ▸ GD.out)
  go_upto_region 75 with (fail)
  have RA := Lib.hid (hXC.out ▸ range_all R6.out.s)
  have YL := Lib.hid TO.out.len
  have I2 := Lib.hid (info_se TO.out)
  have HO := Lib.hid (Se.one y)
  go_wp2_with (first
    | (refine wpList_load_mid rfl 26 (.tmp 4) rfl w.heap.size 0 rfl XC _ RA.out Tryd.underlying26 rfl I0.out ?_)
    | (go_at_call 25; refine (TC.out _).mono ?_; rintro e w8 ⟨rfl, b8⟩; have R8 := Lib.hid (R6.out.step b8); have F := Lib.hid (R8.out.fin TO.out tk 1); clear b8)
    | (refine wpList_store_mid rfl 26 (.tmp 8) (.tmp 347) rfl (w.heap.size + 1) 0 y.cells.toArray rfl rfl (there_of_blk R8.out.z ?s1) ?s2 ?s3 ?_))
  case s1 => have h1 := zero_ok.len; have h2 := YL.out; simp; omega
  case s2 => simpa using I2.out
  case s3 => first | exact HO.out | exact all_oneCell_toArray HO.out
  refine bodyPost_ret (v := .tuple #[.agg y.cells.toArray, .int .u8 (tk : Int), .int .u64 1]) (results_ctt Tryd.results18 _ _ (w.heap.size + 1) y.cells _ rfl F.out.2 Tryd.underlying26 rfl I2.out) rfl F.out.1
set_option maxRecDepth 8000 in
set_option maxHeartbeats 8000000 in
theorem rs_wr8 {B mb : Nat} {pv : Nat → Value} {M : Me} {w : World} (x : Se) (hx : x.Ok) (h8 : x.Ok8) (s : Mm B mb pv M w) (time me : Int) (hst : x.st = 0) (hln : lineL x = -1) (v : Nat) (hv : v < 2 ^ 32) (hld : loadL M (x.r.getD 17 0) (x.r.getD 16 0) 4 = some v) (a b : Nat) (ha : a < 16) (hb16 : b < 16) (hr : rightB ((19 : Nat) : Int) a b ((0 : Nat) : Int) 8 = true) (hw : wordF 19 a b 0 8 = v) (qc : (v : Int) / 67108864 = 19) (qa : (v : Int) / 4194304 % 16 = a) (qb : (v : Int) / 262144 % 16 = b) (qn : IntKind.i16.wrap ((v : Int) % 65536) = 8) :
    Calls Tryd.prog 18 #[.agg x.cells.toArray, .pointer (some ⟨mb, 0, none⟩), .int .u64 time, .int .i64 me] w (RStepP B mb pv ⟨trapS x 1 (x.r.getD 16 0), M, trapK (trapS x 1 (x.r.getD 16 0)), 1⟩ w) := by
  have R := Lib.hid (Rs.new (x := x) s)
  have LC := Lib.hid (fun W => refLine_calls x hx h8 W)
  rw [hln] at LC
  have GC := Lib.hid (fun W (h : Mm B mb pv M W) => refGet_calls x hx h (x.r.getD 16 0) 4 (getD_lt hx 16) (.inl rfl))
  rw [hld] at GC
  simp only [loadE] at GC
  have hz := zero_val
  have HZL := Lib.hid zero_ok.len
  have HX := Lib.hid hx
  have I0 := Lib.hid (info_se hx)
  have I26 := Lib.hid size26
  have XL := Lib.hid hx.len
  have ZL := Lib.hid (fun (a : Nat) (ha : a < 26) => ha)
  have G16 := Lib.hid (hx.gr (i := 16) (by decide))
  have G23 := Lib.hid hx.g23
  rw [hst] at G23
  have FC : Hid (∀ W, Calls Tryd.prog 12 #[.int .u8 19] W fun e w' => e = .returned (.int .i64 9) ∧ Below W.heap.size W w') := fun W => refFields_calls 19 (by decide) W
  have RR : Hid (∀ W, Calls Tryd.prog 27 #[.int .u8 19, .int .u8 (a : Int), .int .u8 (b : Int), .int .u8 0, .int .i16 8] W fun e w' => e = .returned (.bool true) ∧ Below W.heap.size W w') := fun W => hr ▸ refRight_calls 19 a b 0 8 W
  have RW : Hid (∀ W, Calls Tryd.prog 13 #[.int .u8 19, .int .u8 (a : Int), .int .u8 (b : Int), .int .u8 0, .int .i16 8] W fun e w' => e = .returned (.int .u32 (v : Int)) ∧ Below W.heap.size W w') := fun W => hw ▸ refWord_calls 19 a b 0 8 (by decide) ha hb16 (by decide) W
  clear hr hw
  have HA := Lib.hid ha
  have HB := Lib.hid hb16
  have hwx := nx_wrap x
  have NL := Lib.hid (nx_lt x)
  have GA := Lib.hid (hx.gr (i := a) (by omega))
  have GB := Lib.hid (hx.gr (i := b) (by omega))
  have GD := Lib.hid (hx.gr (i := 0) (by omega))
  have HVA := Lib.hid (getD_lt hx a)
  have HVB := Lib.hid (getD_lt hx b)
  have HVD := Lib.hid (getD_lt hx 0)
  have hai : (a : Int) ≤ 15 := by omega
  have hbi : (b : Int) ≤ 15 := by omega
  have hai0 : 0 ≤ (a : Int) := by omega
  have hbi0 : 0 ≤ (b : Int) := by omega
  have hai1 : (a : Int) < 16 := by omega
  have hbi1 : (b : Int) < 16 := by omega
  have hai2 : ¬ (a : Int) < 0 := by omega
  have hbi2 : ¬ (b : Int) < 0 := by omega
  have TC := Lib.hid (fun W => trapped_calls x hx 1 (x.r.getD 16 0) (by decide) (getD_lt hx 16) W)
  have TO := Lib.hid (trap_ok hx (c := 1) (a := (x.r.getD 16 0)) (by decide) (getD_lt hx 16))
  unfold trappedE at TC
  generalize trapS x 1 (x.r.getD 16 0) = y at *
  generalize hTK : trapK y = tk at *
  have hTK := Lib.hid hTK
  generalize nxN x = nx at *
  generalize x.r.getD a 0 = va at *
  generalize x.r.getD b 0 = vb at *
  generalize x.r.getD 0 0 = vd at *
  clear hln hld s hx h8 hst
  generalize x.r.getD 16 0 = pc at *
  generalize hZC : zeroSe.cells = ZC at *
  have hZC := Lib.hid hZC
  have hzs : ZC.toArray.size = 26 := by simpa using HZL.out
  have hzn : ¬ ZC.toArray = #[] := fun h => by rw [h] at hzs; simp at hzs
  generalize hXC : x.cells = XC at *
  have hXC := Lib.hid hXC
  go_enter Tryd.func18, Tryd.ntmps18
  go_upto_region 1 with (fail)
  generalize hw1 : (w.alloc (.cells _ 26)).alloc _ = w1 at *
  clear hw1 hzs hzn hz
  have c23 := R.out.s.cellAt (hXC.out ▸ G23.out)
  go_upto_region 4 with (first
    | (refine wpList_load_mid rfl 26 (.tmp 4) rfl w.heap.size 0 rfl XC _ (hXC.out ▸ range_all R.out.s) Tryd.underlying26 rfl I0.out ?_)
    | (go_at_call 17; refine (LC.out _).mono ?_; rintro e w2 ⟨rfl, b2⟩; have R2 := Lib.hid (R.out.step b2); clear b2))
  clear R LC c23
  have c16 := R2.out.s.cellAt (hXC.out ▸ G16.out)
  go_upto_region 8 with (first
    | (refine wpList_load_mid rfl 26 (.tmp 4) rfl w.heap.size 0 rfl XC _ (hXC.out ▸ range_all R2.out.s) Tryd.underlying26 rfl I0.out ?_)
    | (go_at_call 26; refine (GC.out _ R2.out.m).mono ?_; rintro e w3 ⟨rfl, b3⟩; have R3 := Lib.hid (R2.out.step b3); clear b3))
  clear R2 GC c16
  go_upto_region 18 with (go_at_call 12; refine (FC.out _).mono ?_; rintro e w4 ⟨rfl, b4⟩; have R4 := Lib.hid (R3.out.step b4); clear b4)
  clear FC R3
  go_upto_region 20 with (first
    | (go_at_call 27; refine (RR.out _).mono ?_; rintro e w5 ⟨rfl, b5⟩; have R5 := Lib.hid (R4.out.step b5); clear b5)
    | (go_at_call 13; refine (RW.out _).mono ?_; rintro e w6 ⟨rfl, b6⟩; have R6 := Lib.hid (R5.out.step b6); clear b6))
  clear R4 R5 RR RW
  have c16 := R6.out.s.cellAt (hXC.out ▸ G16.out)
  have cA := R6.out.s.cellAt (hXC.out ▸ GA.out)
  have cB := R6.out.s.cellAt (hXC.out ▸ GB.out)
  have cD := R6.out.s.cellAt (hXC.out ▸ GD.out)
  go_upto_region 75 with (fail)
  have RA := Lib.hid (hXC.out ▸ range_all R6.out.s)
  have YL := Lib.hid TO.out.len
  have I2 := Lib.hid (info_se TO.out)
  have HO := Lib.hid (Se.one y)
  go_wp2_with (first
    | (refine wpList_load_mid rfl 26 (.tmp 4) rfl w.heap.size 0 rfl XC _ RA.out Tryd.underlying26 rfl I0.out ?_)
    | (go_at_call 25; refine (TC.out _).mono ?_; rintro e w8 ⟨rfl, b8⟩; have R8 := Lib.hid (R6.out.step b8); have F := Lib.hid (R8.out.fin TO.out tk 1); clear b8)
    | (refine wpList_store_mid rfl 26 (.tmp 8) (.tmp 347) rfl (w.heap.size + 1) 0 y.cells.toArray rfl rfl (there_of_blk R8.out.z ?s1) ?s2 ?s3 ?_))
  case s1 => have h1 := zero_ok.len; have h2 := YL.out; simp; omega
  case s2 => simpa using I2.out
  case s3 => first | exact HO.out | exact all_oneCell_toArray HO.out
  refine bodyPost_ret (v := .tuple #[.agg y.cells.toArray, .int .u8 (tk : Int), .int .u64 1]) (results_ctt Tryd.results18 _ _ (w.heap.size + 1) y.cells _ rfl F.out.2 Tryd.underlying26 rfl I2.out) rfl F.out.1
end Go.Proofs.YtjlodddlbgpcdaaDoor.Walks
