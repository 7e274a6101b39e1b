/- Walks through the functions of the statement, and the statement over them: each contract says what the call answers and that nothing else changes. -/
import Derived.Test.YtajgiolnajneeaaDoorProg
import Derived.Test.YtajgiolnajneeaaDoorWalkLine
import Derived.Test.YtajgiolnajneeaaDoorBits
import Derived.Test.YtajgiolnajneeaaDoorHeap
import Derived.Test.YtajgiolnajneeaaDoorAid
import Derived.Lib.Hide
import Derived.Test.YtajgiolnajneeaaDoorArr
import Derived.Test.YtajgiolnajneeaaDoorEql
import Derived.WalkKit
import Derived.WalkSpells
import Derived.WalkLawsBesides
import Derived.Deep.QuietTactic
import Derived.BigQuiet
import Derived.Deep.RegionHeld3
import Derived.Deep.DeepCutAuto
import Derived.Deep.CutBlock
import Derived.Lib.SlBytesConst
import Derived.StillTailTactics
import Derived.RegionTactic
import Derived.Shelf.Spec.TrailingZeros
namespace Go.Proofs.YtajgiolnajneeaaDoor.Walks
set_option linter.unusedVariables false
set_option linter.unusedSimpArgs false
open Go.RowKit Go.Proofs.YtajgiolnajneeaaDoor.Bits Go.Proofs.YtajgiolnajneeaaDoor.Heap Go.Proofs.YtajgiolnajneeaaDoor.Aid Go.Proofs.YtajgiolnajneeaaDoor.Arr Go.Proofs.YtajgiolnajneeaaDoor.Eql

set_option maxHeartbeats 1000000 in
theorem lineWakes_walk (c : List Value) (w : World) (f : Fits w seSh c) (hT : TabAt 0 Lib.deBruijn64tab w) :
    Calls Tryd.prog 5 #[.agg c.toArray] w fun e w' => e = .returned (.bool true) ∧ Below w.heap.size w w' := by
  obtain ⟨x, rfl, h⟩ := seat_of_fits f
  have HN := Lib.hid (near_calls x h)
  have okn := Lib.hid (near_ok h)
  have HW := Lib.hid (wake_calls _ okn.out)
  have okw := Lib.hid (wake_ok okn.out)
  have EQ := Lib.hid (fun W => (eql_same (P := Tryd.prog) (w := W) (w0 := W) (n := 3) (t := 26) (s := seSh) (by kernel_rfl) (by omega) (by kernel_rfl) (okw.out.fits W)).1)
  have LX := Lib.hid h.len
  have IX := Lib.hid (info_se h)
  have IN := Lib.hid (info_se okn.out)
  have IW := Lib.hid (info_se okw.out)
  have LN := Lib.hid okn.out.len
  have LW := Lib.hid okw.out.len
  have ON := Lib.hid (Se.one (nearS x))
  have S23 := Lib.hid (show (nearS x).cells.set 23 (.int .u8 0) = { nearS x with st := 0 }.cells from okn.out.s23 0)
  have G23 := okn.out.g23
  have G24 := okn.out.g24
  have G25 := okn.out.g25
  have HA := Lib.hid (bits_and (k := .u32) rfl okn.out.p okn.out.m)
  have HWS := Lib.hid (show wakeS (nearS x) = if (nearS x).st = 1 ∧ (nearS x).pe &&& (nearS x).ma ≠ 0 then { nearS x with st := 0 } else nearS x from rfl)
  have hz := zero_val
  have HZL := Lib.hid zero_ok.len
  have HT := Lib.hid hT
  have G23 := Lib.hid G23
  have G24 := Lib.hid G24
  have G25 := Lib.hid G25
  clear hT f
  generalize nearS x = y at *
  generalize hY : y.cells = YC at *
  generalize wakeS y = z at *
  generalize hWC : z.cells = WC at *
  generalize x.cells = XC at *
  generalize zeroSe.cells = ZC at *
  have hzs : ZC.toArray.size = 26 := by simpa using HZL.out
  have hzn : ¬ ZC.toArray = #[] := fun h => by rw [h] at hzs; simp at hzs
  have HY := Lib.hid hY
  have HWC := Lib.hid hWC
  clear hY hWC
  have X1 : Hid (Own w w.heap.size XC 26 (w.alloc (.cells XC.toArray 26))) := Own.newL (Below.refl _ _) _ _
  go_enter Tryd.func5, Tryd.ntmps5
  go_upto_region 1 with (fail)
  generalize w.alloc (.cells XC.toArray 26) = w1 at *
  go_upto_region 2 with (first | refine wpList_load_mid rfl 26 (.tmp 1) rfl w.heap.size 0 rfl XC _ X1.out.all Tryd.underlying26 rfl IX.out ?_ | (go_at_call 8; refine (HN.out _).mono ?_; rintro e w2 ⟨rfl, u2⟩; have X2 := Lib.hid (X1.out.step u2); clear u2) | refine wpList_store_mid rfl 26 (.tmp 1) (.tmp 5) rfl w.heap.size 0 YC.toArray rfl rfl (X2.out.there ?s1) ?s2 ?s3 ?_)
  case s1 => have h1 := LX.out; have h2 := LN.out; simp; omega
  case s2 => simpa using IN.out
  case s3 => first | exact ON.out | exact all_oneCell_toArray ON.out
  have X3 := Lib.hid (X2.out.setAll YC (by rw [LX.out, LN.out]))
  generalize World.setCells _ _ _ _ = w3 at *
  have Y4 := Lib.hid (Own.newL X3.out.bel ZC 26)
  have X4 := Lib.hid (X3.out.alloc (.cells ZC.toArray 26))
  have NE := Lib.hid (Nat.ne_of_lt X3.out.lt)
  go_upto_region 3 with (first | refine wpList_load_mid rfl 26 (.tmp 1) rfl w.heap.size 0 rfl YC _ X3.out.all Tryd.underlying26 rfl IN.out ?_ | refine wpList_store_mid rfl 26 (.tmp 3) (.tmp 6) rfl w3.heap.size 0 YC.toArray rfl rfl (Y4.out.there ?s1) ?s2 ?s3 ?_)
  case s1 => have h1 := HZL.out; have h2 := LN.out; simp; omega
  case s2 => simpa using IN.out
  case s3 => first | exact ON.out | exact all_oneCell_toArray ON.out
  have Y5 := Lib.hid (Y4.out.setAll YC (by rw [HZL.out, LN.out]))
  have X5 := Lib.hid (X4.out.setAllO (Ne.symm NE.out) X3.out.bel.size 0 YC)
  generalize World.setCells _ _ _ _ = w5 at *
  go_upto_region 4 with (go_at_call 14; refine (HW.out _ _ X5.out.k).mono ?_; rintro e w6 ⟨rfl, u6⟩; have X6 := Lib.hid (X5.out.upd u6); have Y6 := Lib.hid (Y5.out.updO NE.out X1.out.n u6); clear u6)
  have c23 := Y6.out.cell G23.out
  have c24 := Y6.out.cell G24.out
  have c25 := Y6.out.cell G25.out
  have f23 := Y6.out.fro 23
  have hst : 0 ≤ (y.st : Int) := by omega
  generalize w3.heap.size = N at *
  have EQ2 := EQ.out
  by_cases hc : y.st = 1 ∧ y.pe &&& y.ma ≠ 0
  · have e1 : z = { y with st := 0 } := by rw [HWS.out, if_pos hc]
    have hs : ((y.st : Int) == 1) = true := by simp [hc.1]
    have hq : (Go.bits .and .u32 (y.pe : Int) (y.ma : Int) == 0) = false := by rw [HA.out]; simpa using hc.2
    have Y7 := Lib.hid (Y6.out.set 23 (.int .u8 0))
    rw [show YC.set 23 (.int .u8 0) = WC by rw [← HWC.out, e1, ← S23.out]] at Y7
    clear e1 hc
    go_upto_region 6 with (fail)
    have X7 := Lib.hid (X6.out.setO (Ne.symm NE.out) Y6.out.n 23 (.int .u8 0))
    generalize World.setCell _ _ _ = w7 at *
    go_wp2_with (first | refine wpList_load_w (by rfl) 26 (.tmp 1) rfl w.heap.size 0 rfl WC _ X8.out.all Tryd.underlying26 rfl IW.out ?_ | refine wpList_load_w (by rfl) 26 (.tmp 3) rfl N 0 rfl WC _ Y8.out.all Tryd.underlying26 rfl IW.out ?_ | (go_at_call 10; refine (awake_calls _ (tab_below HT.out X7.out.bel)).mono ?_; rintro e w8 ⟨rfl, u8⟩; have X8 := Lib.hid (X7.out.step u8); have Y8 := Lib.hid (Y7.out.step u8); clear u8))
    go_ret
    exact ⟨rfl, X8.out.bel⟩
  · have e1 : z = y := by rw [HWS.out, if_neg hc]
    have Y7 := Y6
    rw [show YC = WC by rw [← HWC.out, e1, HY.out]] at Y7
    by_cases hc1 : y.st = 1
    · have hs : ((y.st : Int) == 1) = true := by simp [hc1]
      have hq : (Go.bits .and .u32 (y.pe : Int) (y.ma : Int) == 0) = true := by
        rw [HA.out]
        have : y.pe &&& y.ma = 0 := by
          rcases Nat.eq_zero_or_pos (y.pe &&& y.ma) with h0 | h0
          · exact h0
          · exact absurd ⟨hc1, by omega⟩ hc
        simp [this]
      clear e1 hc hc1
      go_wp2_with (first | refine wpList_load_w (by rfl) 26 (.tmp 1) rfl w.heap.size 0 rfl WC _ X8.out.all Tryd.underlying26 rfl IW.out ?_ | refine wpList_load_w (by rfl) 26 (.tmp 3) rfl N 0 rfl WC _ Y8.out.all Tryd.underlying26 rfl IW.out ?_ | (go_at_call 10; refine (awake_calls _ (tab_below HT.out X6.out.bel)).mono ?_; rintro e w8 ⟨rfl, u8⟩; have X8 := Lib.hid (X6.out.step u8); have Y8 := Lib.hid (Y7.out.step u8); clear u8))
      go_ret
      exact ⟨rfl, X8.out.bel⟩
    · have hs : ((y.st : Int) == 1) = false := by simp; omega
      clear e1 hc hc1
      go_wp2_with (first | refine wpList_load_w (by rfl) 26 (.tmp 1) rfl w.heap.size 0 rfl WC _ X8.out.all Tryd.underlying26 rfl IW.out ?_ | refine wpList_load_w (by rfl) 26 (.tmp 3) rfl N 0 rfl WC _ Y8.out.all Tryd.underlying26 rfl IW.out ?_ | (go_at_call 10; refine (awake_calls _ (tab_below HT.out X6.out.bel)).mono ?_; rintro e w8 ⟨rfl, u8⟩; have X8 := Lib.hid (X6.out.step u8); have Y8 := Lib.hid (Y7.out.step u8); clear u8))
      go_ret
      exact ⟨rfl, X8.out.bel⟩
end Go.Proofs.YtajgiolnajneeaaDoor.Walks
