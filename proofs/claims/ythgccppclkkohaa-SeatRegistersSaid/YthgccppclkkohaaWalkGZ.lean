/- Walks through the functions of the statement, and the statement over them: each contract says what the call answers and that nothing else changes. -/
import Derived.Test.YthgccppclkkohaaProg
import Derived.Test.YthgccppclkkohaaWalkSeat
import Derived.Test.YthgccppclkkohaaWalkSeat2
import Derived.Test.YthgccppclkkohaaWalkR1
import Derived.Test.YthgccppclkkohaaBits
import Derived.Test.YthgccppclkkohaaHeap
import Derived.Test.YthgccppclkkohaaAid
import Derived.Lib.Hide
import Derived.Test.YthgccppclkkohaaArr
import Derived.Test.YthgccppclkkohaaEql
import Derived.WalkKit
import Derived.WalkSpells
import Derived.WalkLawsBesides
import Derived.Deep.QuietTactic
import Derived.BigQuiet
import Derived.Deep.RegionHeld3
import Derived.Deep.DeepCutAuto
import Derived.Deep.CutBlock
import Derived.Lib.SlBytesConst
import Derived.StillTailTactics
import Derived.Laws.MakeOwn
import Derived.Deep.AppendLies
import Derived.RegionTactic
import Derived.Deep.RegionLaw
namespace Go.Proofs.Ythgccppclkkohaa.Walks
set_option linter.unusedVariables false
set_option linter.unusedSimpArgs false
open Go.RowKit Go.Proofs.Ythgccppclkkohaa.Bits Go.Proofs.Ythgccppclkkohaa.Heap Go.Proofs.Ythgccppclkkohaa.Aid Go.Proofs.Ythgccppclkkohaa.Arr Go.Proofs.Ythgccppclkkohaa.Eql


set_option maxRecDepth 8000 in
set_option maxHeartbeats 4000000 in
theorem regs_out (x : Se) (h : x.Ok) (n time me v : Int) (hn : ¬ (0 ≤ n ∧ n ≤ 8)) (w : World) :
    Calls Try.prog 8 #[.agg x.cells.toArray, .int .i64 n, .int .u64 time, .int .i64 me, .int .u64 v] w fun e w' => e = .returned (.bool true) ∧ Below w.heap.size w w' := by
  have f : True := trivial
  have GA := Lib.hid (get_out (nearS x).cells n time me hn)
  have ST := Lib.hid (set_out n v (by omega))
  have EQ := Lib.hid (fun W => eql_same (P := Try.prog) (w := W) (w0 := W) (n := 3) (t := 26) (s := seSh) (by kernel_rfl) (by omega) (by kernel_rfl) ((near_ok h).fits W))
  have HD : Hid ((decide (n < 0) = true) ∨ (decide (n < 0) = false ∧ decide (8 < n) = true)) := by
    by_cases h0 : n < 0
    · exact .inl (decide_eq_true h0)
    · exact .inr ⟨decide_eq_false h0, decide_eq_true (by omega)⟩
  clear hn
  have HN := Lib.hid (near_calls x h)
  have okn := Lib.hid (near_ok h)
  have LX := Lib.hid h.len
  have IX := Lib.hid (info_se h)
  have IN := Lib.hid (info_se okn.out)
  have LN := Lib.hid okn.out.len
  have ON := Lib.hid (Se.one (nearS x))
  have G22 := Lib.hid okn.out.g22
  have G23 := Lib.hid okn.out.g23
  have G24 := Lib.hid okn.out.g24
  have G25 := Lib.hid okn.out.g25
  have YP : Hid ((nearS x).pe < 256) := Nat.mod_lt _ (by omega)
  have YM : Hid ((nearS x).ma < 256) := Nat.mod_lt _ (by omega)
  have HA := Lib.hid (bits_and (k := .u32) rfl okn.out.p okn.out.m)
  have hz := zero_val
  have HZL := Lib.hid zero_ok.len
  clear f
  generalize nearS x = y at *
  generalize hY : y.cells = YC at *
  generalize x.cells = XC at *
  generalize zeroSe.cells = ZC at *
  have hzs : ZC.toArray.size = 26 := by simpa using HZL.out
  have hzn : ¬ ZC.toArray = #[] := fun h => by rw [h] at hzs; simp at hzs
  have HY := Lib.hid hY
  clear hY
  have X1 : Hid (Own w w.heap.size XC 26 (w.alloc (.cells XC.toArray 26))) := Own.newL (Below.refl _ _) _ _
  go_enter Try.func8, Try.ntmps8
  go_upto_region 1 with (fail)
  generalize w.alloc (.cells XC.toArray 26) = w1 at *
  go_upto_region 2 with (first | refine wpList_load_mid rfl 26 (.tmp 5) rfl w.heap.size 0 rfl XC _ X1.out.all Try.underlying26 rfl IX.out ?_ | (go_at_call 9; refine (HN.out _).mono ?_; rintro e w2 ⟨rfl, u2⟩; have X2 := Lib.hid (X1.out.step u2); clear u2) | refine wpList_store_mid rfl 26 (.tmp 5) (.tmp 20) rfl w.heap.size 0 YC.toArray rfl rfl (X2.out.there ?s1) ?s2 ?s3 ?_)
  case s1 => have h1 := LX.out; have h2 := LN.out; simp; omega
  case s2 => simpa using IN.out
  case s3 => first | exact ON.out | exact all_oneCell_toArray ON.out
  have X3 := Lib.hid (X2.out.setAll YC (by rw [LX.out, LN.out]))
  generalize World.setCells _ _ _ _ = w3 at *
  have Y4 := Lib.hid (Own.newL X3.out.bel ZC 26)
  have X4 := Lib.hid (X3.out.alloc (.cells ZC.toArray 26))
  have NE := Lib.hid (Nat.ne_of_lt X3.out.lt)
  go_upto_region 3 with (first | refine wpList_load_mid rfl 26 (.tmp 5) rfl w.heap.size 0 rfl YC _ X3.out.all Try.underlying26 rfl IN.out ?_ | refine wpList_store_mid rfl 26 (.tmp 11) (.tmp 21) rfl w3.heap.size 0 YC.toArray rfl rfl (Y4.out.there ?s1) ?s2 ?s3 ?_)
  case s1 => have h1 := HZL.out; have h2 := LN.out; simp; omega
  case s2 => simpa using IN.out
  case s3 => first | exact ON.out | exact all_oneCell_toArray ON.out
  have Y5 := Lib.hid (Y4.out.setAll YC (by rw [HZL.out, LN.out]))
  have X5 := Lib.hid (X4.out.setAllO (Ne.symm NE.out) X3.out.bel.size 0 YC)
  generalize World.setCells _ _ _ _ = w5 at *
  clear X1 X2 X3 X4 Y4
  clear hz HZL hzs hzn HA HN
  have EQ1 := fun W => (EQ.out W).1
  have EQ2 := fun W => (EQ.out W).2
  go_upto_region 4 with (first | refine wpList_load_mid rfl 26 (.tmp 5) rfl w.heap.size 0 rfl YC _ X5.out.all Try.underlying26 rfl IN.out ?_ | (go_at_call 20; refine (GA.out _).mono ?_; rintro e w6 ⟨rfl, u6⟩; have X6 := Lib.hid (X5.out.step u6); have Y6 := Lib.hid (Y5.out.step u6); clear u6))
  rcases HD.out with hd | ⟨hd, hd2⟩
  all_goals
    go_upto_region 5 with (fail)
    go_wp2_with (first | (go_at_call 12; refine (awake_calls _).mono ?_; rintro e w7 ⟨rfl, u7⟩; have X7 := Lib.hid (X6.out.step u7); have Y7 := Lib.hid (Y6.out.step u7); clear u7) | (go_at_call 19; refine (ST.out _ _).mono ?_; rintro e w8 ⟨rfl, rfl⟩) | refine wpList_load_w (by rfl) 26 (.tmp 5) rfl w.heap.size 0 rfl YC _ X7.out.all Try.underlying26 rfl IN.out ?_ | refine wpList_load_w (by rfl) 26 (.tmp 11) rfl w3.heap.size 0 rfl YC _ Y7.out.all Try.underlying26 rfl IN.out ?_)
    go_ret
    exact ⟨rfl, X7.out.bel⟩
end Go.Proofs.Ythgccppclkkohaa.Walks
