/- Walks through the functions of the statement, and the statement over them: each contract says what the call answers and that nothing else changes. -/
import Derived.Test.YthgccppclkkohaaProg
import Derived.Test.YthgccppclkkohaaWalkSeat
import Derived.Test.YthgccppclkkohaaWalkSeat2
import Derived.Test.YthgccppclkkohaaWalkTraps
import Derived.Test.YthgccppclkkohaaBits
import Derived.Test.YthgccppclkkohaaHeap
import Derived.Test.YthgccppclkkohaaAid
import Derived.Lib.Hide
import Derived.Test.YthgccppclkkohaaArr
import Derived.Test.YthgccppclkkohaaEql
import Derived.WalkKit
import Derived.WalkSpells
import Derived.WalkLawsBesides
import Derived.Deep.QuietTactic
import Derived.BigQuiet
import Derived.Deep.RegionHeld3
import Derived.Deep.DeepCutAuto
import Derived.Deep.CutBlock
import Derived.Lib.SlBytesConst
import Derived.StillTailTactics
import Derived.Laws.MakeOwn
import Derived.Deep.AppendLies
import Derived.RegionTactic
import Derived.Deep.RegionLaw
namespace Go.Proofs.Ythgccppclkkohaa.Walks
set_option linter.unusedVariables false
set_option linter.unusedSimpArgs false
open Go.RowKit Go.Proofs.Ythgccppclkkohaa.Bits Go.Proofs.Ythgccppclkkohaa.Heap Go.Proofs.Ythgccppclkkohaa.Aid Go.Proofs.Ythgccppclkkohaa.Arr Go.Proofs.Ythgccppclkkohaa.Eql


theorem take16 {x : Se} (h : x.Ok) : x.cells.take 16 = (x.r.take 16).map enc64 := by
  unfold Se.cells
  rw [List.take_append_of_le_length (by simp [h.l]), List.map_take]
theorem keepsT {z : Se} (h : z.Ok) {c a : Nat} (hc : c < 2 ^ 64) (ha : a < 2 ^ 64) (hv : z.r.getD 18 0 ≠ 0) :
    (trapS z c a).cells.take 16 = z.cells.take 16 ∧ (trapS z c a).r.getD 16 0 = z.r.getD 18 0 ∧ (trapS z c a).r.getD 17 0 = z.r.getD 17 0 ∧ (trapS z c a).r.getD 18 0 = z.r.getD 18 0 ∧ (trapS z c a).r.getD 19 0 = z.r.getD 16 0 ∧ (trapS z c a).op = false ∧ (trapS z c a).st = z.st ∧ (trapS z c a).pe = z.pe ∧ (trapS z c a).ma = z.ma := by
  have hl := h.l
  rw [take16 (trap_ok h hc ha), take16 h]
  unfold trapS
  rw [if_neg hv]
  refine ⟨?_, ?_, ?_, ?_, ?_, rfl, rfl, rfl, rfl⟩
  · congr 1
    simp only [List.take_set]
    rw [List.set_eq_of_length_le (by simp; omega), List.set_eq_of_length_le (by simp; omega), List.set_eq_of_length_le (by simp; omega), List.set_eq_of_length_le (by simp; omega)]
  all_goals simp [List.getD_eq_getElem?_getD, List.getElem?_set, hl]
theorem keepsB {z : Se} (h : z.Ok) {c a : Nat} (hc : c < 2 ^ 64) (ha : a < 2 ^ 64) (hv : z.r.getD 18 0 ≠ 0) :
    (backS (trapS z c a)).cells.take 16 = z.cells.take 16 ∧ (backS (trapS z c a)).r.getD 16 0 = z.r.getD 16 0 ∧ (backS (trapS z c a)).op = true ∧ (backS (trapS z c a)).pe = z.pe := by
  obtain ⟨h1, h2, h3, h4, h5, h6, h7, h8, h9⟩ := keepsT h hc ha hv
  rw [take16 (trap_ok h hc ha)] at h1
  refine ⟨?_, (trap_back h hv).1, rfl, h8⟩
  rw [take16 (back_ok (trap_ok h hc ha)), ← h1]
  congr 1
  unfold backS
  simp only [List.take_set]
  rw [List.set_eq_of_length_le (by simp; omega)]
theorem fix18 {y : Se} (h : y.Ok) : ∃ z : Se, z.Ok ∧ z.r.getD 18 0 ≠ 0 ∧ ((y.r.getD 18 0 = 0 ∧ y.cells.set 18 (.int .u64 4) = z.cells) ∨ (y.r.getD 18 0 ≠ 0 ∧ y.cells = z.cells)) := by
  have hl := h.l
  by_cases h0 : y.r.getD 18 0 = 0
  · refine ⟨{ y with r := y.r.set 18 4 }, ⟨by simp [h.l], set_lt h.w (by omega), h.s, h.p, h.m⟩, ?_, .inl ⟨h0, h.sr (by omega) 4⟩⟩
    simp [List.getD_eq_getElem?_getD, List.getElem?_set, hl]
  · exact ⟨y, h, h0, .inr ⟨h0, rfl⟩⟩
theorem range_take {w : World} {b n : Nat} {cs : List Value} (h : w.rangeAt b 0 cs) : w.rangeAt b 0 (cs.take n) := by
  intro j v hj
  rw [List.getElem?_take] at hj
  split at hj
  · exact h j v hj
  · cases hj
theorem size16 : (Try.prog.info? 23).map (·.size) = some 16 := by kernel_rfl
set_option maxHeartbeats 4000000 in
theorem seatKeeps_walk (cs : List Value) (ci ai : Int) (w : World) (f : Fits w seSh cs) (wc : (Lit.int .u64 ci).wf = true) (wa : (Lit.int .u64 ai).wf = true) :
    Calls Try.prog 4 #[.agg cs.toArray, .int .u64 ci, .int .u64 ai] w fun e w' => e = .returned (.bool true) ∧ Below w.heap.size w w' := by
  obtain ⟨x, rfl, h⟩ := seat_of_fits f
  obtain ⟨c, rfl, hc⟩ := wf_u64 wc
  obtain ⟨a, rfl, ha⟩ := wf_u64 wa
  obtain ⟨z, okz, hvz, hcase⟩ := fix18 (near_ok h)
  have okt := Lib.hid (trap_ok okz hc ha)
  have okb := Lib.hid (back_ok okt.out)
  have TK := Lib.hid (trap_calls _ okz c a hc ha)
  have BK := Lib.hid (back_calls _ okt.out)
  obtain ⟨k1, k2, k3, k4, k5, k6, k7, k8, k9⟩ := keepsT okz hc ha hvz
  obtain ⟨m1, m2, m3, m4⟩ := keepsB okz hc ha hvz
  have T16 := Lib.hid (okt.out.gr (i := 16) (by omega))
  have T17 := Lib.hid (okt.out.gr (i := 17) (by omega))
  have T18 := Lib.hid (okt.out.gr (i := 18) (by omega))
  have T19 := Lib.hid (okt.out.gr (i := 19) (by omega))
  have T22 := Lib.hid okt.out.g22
  have T23 := Lib.hid okt.out.g23
  have T24 := Lib.hid okt.out.g24
  have T25 := Lib.hid okt.out.g25
  have B16 := Lib.hid (okb.out.gr (i := 16) (by omega))
  have B22 := Lib.hid okb.out.g22
  have B24 := Lib.hid okb.out.g24
  rw [k2] at T16
  rw [k3] at T17
  rw [k4] at T18
  rw [k5] at T19
  rw [k6] at T22
  rw [k7] at T23
  rw [k8] at T24
  rw [k9] at T25
  rw [m2] at B16
  rw [m3] at B22
  rw [m4] at B24
  have Z16 := Lib.hid (okz.gr (i := 16) (by omega))
  have Z17 := Lib.hid (okz.gr (i := 17) (by omega))
  have Z18 := Lib.hid (okz.gr (i := 18) (by omega))
  have Z23 := Lib.hid okz.g23
  have Z24 := Lib.hid okz.g24
  have Z25 := Lib.hid okz.g25
  have TT := Lib.hid k1
  have TB := Lib.hid m1
  have fz : Fits w (.rep 16 (.int .u64)) (z.cells.take 16) := by
    rw [take16 okz]
    exact fits_nats 16 _ (by simp [okz.l]) (fun y hy => okz.w y (List.mem_of_mem_take hy))
  have EQ := Lib.hid (fun W => eql_same (P := Try.prog) (w := W) (w0 := w) (n := 2) (t := 23) (s := .rep 16 (.int .u64)) (by kernel_rfl) (by omega) (by kernel_rfl) fz)
  have LR : Hid ((z.cells.take 16).length = 16) := by show _ = _; rw [take16 okz]; simp [okz.l]
  have LZ := Lib.hid okz.len
  have IZ := Lib.hid (info_se okz)
  have OZ := Lib.hid (Se.one z)
  have Y18 := Lib.hid ((near_ok h).gr (i := 18) (by omega))
  clear k1 k2 k3 k4 k5 k6 k7 k8 k9 m1 m2 m3 m4 hvz okb okt okz fz
  generalize backS (trapS z c a) = bz at *
  generalize trapS z c a = tz at *
  generalize bz.cells = BC at *
  generalize tz.cells = TC at *
  generalize ((z.r.getD 16 0 : Nat) : Int) = v16 at *
  generalize ((z.r.getD 17 0 : Nat) : Int) = v17 at *
  generalize ((z.r.getD 18 0 : Nat) : Int) = v18 at *
  generalize (z.st : Int) = v23 at *
  generalize (z.pe : Int) = v24 at *
  generalize (z.ma : Int) = v25 at *
  generalize z.cells = SC at *
  generalize hRC : SC.take 16 = RC at *
  have HRC := Lib.hid hRC
  clear hRC wc wa
  generalize (nearS x).r.getD 18 0 = n18 at *
  have HC := Lib.hid hcase
  clear hcase
  have HN := Lib.hid (near_calls x h)
  have okn := Lib.hid (near_ok h)
  have LX := Lib.hid h.len
  have IX := Lib.hid (info_se h)
  have IN := Lib.hid (info_se okn.out)
  have LN := Lib.hid okn.out.len
  have ON := Lib.hid (Se.one (nearS x))
  have G22 := Lib.hid okn.out.g22
  have G23 := Lib.hid okn.out.g23
  have G24 := Lib.hid okn.out.g24
  have G25 := Lib.hid okn.out.g25
  have YP : Hid ((nearS x).pe < 256) := Nat.mod_lt _ (by omega)
  have YM : Hid ((nearS x).ma < 256) := Nat.mod_lt _ (by omega)
  have HA := Lib.hid (bits_and (k := .u32) rfl okn.out.p okn.out.m)
  have hz := zero_val
  have HZL := Lib.hid zero_ok.len
  clear f
  generalize nearS x = y at *
  generalize hY : y.cells = YC at *
  generalize x.cells = XC at *
  generalize zeroSe.cells = ZC at *
  have hzs : ZC.toArray.size = 26 := by simpa using HZL.out
  have hzn : ¬ ZC.toArray = #[] := fun h => by rw [h] at hzs; simp at hzs
  have HY := Lib.hid hY
  clear hY
  have X1 : Hid (Own w w.heap.size XC 26 (w.alloc (.cells XC.toArray 26))) := Own.newL (Below.refl _ _) _ _
  go_enter Try.func4, Try.ntmps4
  go_upto_region 1 with (fail)
  generalize w.alloc (.cells XC.toArray 26) = w1 at *
  go_upto_region 2 with (first | refine wpList_load_mid rfl 26 (.tmp 3) rfl w.heap.size 0 rfl XC _ X1.out.all Try.underlying26 rfl IX.out ?_ | (go_at_call 9; refine (HN.out _).mono ?_; rintro e w2 ⟨rfl, u2⟩; have X2 := Lib.hid (X1.out.step u2); clear u2) | refine wpList_store_mid rfl 26 (.tmp 3) (.tmp 9) rfl w.heap.size 0 YC.toArray rfl rfl (X2.out.there ?s1) ?s2 ?s3 ?_)
  case s1 => have h1 := LX.out; have h2 := LN.out; simp; omega
  case s2 => simpa using IN.out
  case s3 => first | exact ON.out | exact all_oneCell_toArray ON.out
  have X3 := Lib.hid (X2.out.setAll YC (by rw [LX.out, LN.out]))
  generalize World.setCells _ _ _ _ = w3 at *
  have c18 := X3.out.cell Y18.out
  have HZZ := hz
  have X4 : Hid (Own w w.heap.size SC 26 (if n18 = 0 then w3.setCell ⟨w.heap.size, 18, none⟩ (.int .u64 4) else w3)) := by
    rcases HC.out with ⟨h0, h1⟩ | ⟨h0, h1⟩
    · rw [if_pos h0, ← h1]
      exact X3.out.set 18 _
    · rw [if_neg h0, ← h1]
      exact X3.out
  have f18 := X3.out.fro 18
  rcases HC.out with ⟨h0, h1⟩ | ⟨h0, h1⟩
  · rw [if_pos h0] at X4
    subst h0
    clear HC h1
    go_upto_region 4 with (fail)
    generalize World.setCell _ _ _ = w4 at *
    clear c18 f18
    have R4 : Hid (Own w w4.heap.size ZC 26 (w4.alloc (.cells ZC.toArray 26))) := Own.newL X4.out.bel ZC _
    have S4 := Lib.hid (X4.out.alloc (.cells ZC.toArray 26))
    have NE := Lib.hid (Nat.ne_of_lt X4.out.lt)
    go_upto_region 5 with (first | refine wpList_load_mid rfl 26 (.tmp 3) rfl w.heap.size 0 rfl SC _ X4.out.all Try.underlying26 rfl IZ.out ?_ | refine wpList_store_mid rfl 26 (.tmp 7) (.tmp 14) rfl w4.heap.size 0 SC.toArray rfl rfl (R4.out.there ?s1) ?s2 ?s3 ?_)
    case s1 => have h1 := HZL.out; have h2 := LZ.out; simp; omega
    case s2 => simpa using IZ.out
    case s3 => first | exact OZ.out | exact all_oneCell_toArray OZ.out
    have R5 := Lib.hid (R4.out.setAll SC (by rw [HZL.out, LZ.out]))
    have S5 := Lib.hid (S4.out.setAllO (Ne.symm NE.out) X4.out.bel.size 0 SC)
    generalize World.setCells _ _ _ _ = w5 at *
    have LN2 := Lib.hid X4.out.bel.size
    clear R4 S4 X4
    generalize w4.heap.size = N2 at *
    go_upto_region 6 with (go_at_call 10; refine (TK.out _ _ R5.out.k).mono ?_; rintro e w6 ⟨rfl, u6⟩; have R6 := Lib.hid (R5.out.upd u6); have S6 := Lib.hid (S5.out.updO (Ne.symm NE.out) LN2.out u6); clear u6)
    trace_state
    have a16 := S6.out.cell Z16.out
    have a17 := S6.out.cell Z17.out
    have a18 := S6.out.cell Z18.out
    have a23 := S6.out.cell Z23.out
    have a24 := S6.out.cell Z24.out
    have a25 := S6.out.cell Z25.out
    have b16 := R6.out.cell T16.out
    have b17 := R6.out.cell T17.out
    have b18 := R6.out.cell T18.out
    have b19 := R6.out.cell T19.out
    have b22 := R6.out.cell T22.out
    have b23 := R6.out.cell T23.out
    have b24 := R6.out.cell T24.out
    have b25 := R6.out.cell T25.out
    have ra := Lib.hid (range_take (n := 16) S6.out.all)
    have rb := Lib.hid (range_take (n := 16) R6.out.all)
    rw [HRC.out] at ra
    rw [TT.out] at rb
    have I16 : Hid ((Try.prog.info? 23).map (·.size) = some RC.length) := by show _ = _; rw [LR.out]; exact size16
    have E1 := fun W => (EQ.out W).1
    have E2 := fun W => (EQ.out W).2
    go_upto_region 8 with (first | refine wpList_load_mid rfl 23 (.tmp 18) rfl N2 0 rfl RC _ rb.out Try.underlying23 rfl I16.out ?_ | refine wpList_load_mid rfl 23 (.tmp 20) rfl w.heap.size 0 rfl RC _ ra.out Try.underlying23 rfl I16.out ?_)
    clear a16 a17 a18 a23 a24 a25 b16 b17 b18 b19 b22 b23 b24 b25 ra rb
    trace_state
    go_upto_region 9 with (go_at_call 13; refine (BK.out _ _ R6.out.k).mono ?_; rintro e w8 ⟨rfl, u8⟩; have R8 := Lib.hid (R6.out.upd u8); have S8 := Lib.hid (S6.out.updO (Ne.symm NE.out) LN2.out u8); clear u8)
    have q0 : Hid (∀ w9, Below w8.heap.size w8 w9 → w9.cell? ⟨w.heap.size, 16, none⟩ = some (.int .u64 v16) ∧ w9.cell? ⟨w.heap.size, 24, none⟩ = some (.int .u32 v24) ∧ w9.cell? ⟨N2, 16, none⟩ = some (.int .u64 v16) ∧ w9.cell? ⟨N2, 22, none⟩ = some (.bool true) ∧ w9.cell? ⟨N2, 24, none⟩ = some (.int .u32 v24)) := fun w9 u => ⟨(S8.out.step u).cell Z16.out, (S8.out.step u).cell Z24.out, (R8.out.step u).cell B16.out, (R8.out.step u).cell B22.out, (R8.out.step u).cell B24.out⟩
    have q1 : Hid (∀ w9, Below w8.heap.size w8 w9 → w9.rangeAt w.heap.size 0 RC ∧ w9.rangeAt N2 0 RC) := fun w9 u => by
      have ra := range_take (n := 16) (S8.out.step u).all
      have rb := range_take (n := 16) (R8.out.step u).all
      rw [HRC.out] at ra
      rw [TB.out] at rb
      exact ⟨ra, rb⟩
    go_wp2_with (first | refine wpList_load_w (by rfl) 23 (.tmp 79) rfl N2 0 rfl RC _ q9.out.2 Try.underlying23 rfl I16.out ?_ | refine wpList_load_w (by rfl) 23 (.tmp 81) rfl w.heap.size 0 rfl RC _ q9.out.1 Try.underlying23 rfl I16.out ?_ | (go_at_call 12; refine (awake_calls _).mono ?_; rintro e w9 ⟨rfl, u9⟩; have S9 := Lib.hid (S8.out.step u9); obtain ⟨p1, p2, p3, p4, p5⟩ := q0.out _ u9; have q9 := Lib.hid (q1.out _ u9)))
    go_ret
    exact ⟨rfl, S9.out.bel⟩
  · rw [if_neg h0] at X4
    have hne : (((n18 : Nat) : Int) == 0) = false := by simp; omega
    clear HC h1 h0
    go_upto_region 4 with (fail)
    generalize hw4 : w3 = w4 at *
    clear c18 f18
    have R4 : Hid (Own w w4.heap.size ZC 26 (w4.alloc (.cells ZC.toArray 26))) := Own.newL X4.out.bel ZC _
    have S4 := Lib.hid (X4.out.alloc (.cells ZC.toArray 26))
    have NE := Lib.hid (Nat.ne_of_lt X4.out.lt)
    go_upto_region 5 with (first | refine wpList_load_mid rfl 26 (.tmp 3) rfl w.heap.size 0 rfl SC _ X4.out.all Try.underlying26 rfl IZ.out ?_ | refine wpList_store_mid rfl 26 (.tmp 7) (.tmp 14) rfl w4.heap.size 0 SC.toArray rfl rfl (R4.out.there ?s1) ?s2 ?s3 ?_)
    case s1 => have h1 := HZL.out; have h2 := LZ.out; simp; omega
    case s2 => simpa using IZ.out
    case s3 => first | exact OZ.out | exact all_oneCell_toArray OZ.out
    have R5 := Lib.hid (R4.out.setAll SC (by rw [HZL.out, LZ.out]))
    have S5 := Lib.hid (S4.out.setAllO (Ne.symm NE.out) X4.out.bel.size 0 SC)
    generalize World.setCells _ _ _ _ = w5 at *
    have LN2 := Lib.hid X4.out.bel.size
    clear R4 S4 X4
    generalize w4.heap.size = N2 at *
    go_upto_region 6 with (go_at_call 10; refine (TK.out _ _ R5.out.k).mono ?_; rintro e w6 ⟨rfl, u6⟩; have R6 := Lib.hid (R5.out.upd u6); have S6 := Lib.hid (S5.out.updO (Ne.symm NE.out) LN2.out u6); clear u6)
    trace_state
    have a16 := S6.out.cell Z16.out
    have a17 := S6.out.cell Z17.out
    have a18 := S6.out.cell Z18.out
    have a23 := S6.out.cell Z23.out
    have a24 := S6.out.cell Z24.out
    have a25 := S6.out.cell Z25.out
    have b16 := R6.out.cell T16.out
    have b17 := R6.out.cell T17.out
    have b18 := R6.out.cell T18.out
    have b19 := R6.out.cell T19.out
    have b22 := R6.out.cell T22.out
    have b23 := R6.out.cell T23.out
    have b24 := R6.out.cell T24.out
    have b25 := R6.out.cell T25.out
    have ra := Lib.hid (range_take (n := 16) S6.out.all)
    have rb := Lib.hid (range_take (n := 16) R6.out.all)
    rw [HRC.out] at ra
    rw [TT.out] at rb
    have I16 : Hid ((Try.prog.info? 23).map (·.size) = some RC.length) := by show _ = _; rw [LR.out]; exact size16
    have E1 := fun W => (EQ.out W).1
    have E2 := fun W => (EQ.out W).2
    go_upto_region 8 with (first | refine wpList_load_mid rfl 23 (.tmp 18) rfl N2 0 rfl RC _ rb.out Try.underlying23 rfl I16.out ?_ | refine wpList_load_mid rfl 23 (.tmp 20) rfl w.heap.size 0 rfl RC _ ra.out Try.underlying23 rfl I16.out ?_)
    clear a16 a17 a18 a23 a24 a25 b16 b17 b18 b19 b22 b23 b24 b25 ra rb
    trace_state
    go_upto_region 9 with (go_at_call 13; refine (BK.out _ _ R6.out.k).mono ?_; rintro e w8 ⟨rfl, u8⟩; have R8 := Lib.hid (R6.out.upd u8); have S8 := Lib.hid (S6.out.updO (Ne.symm NE.out) LN2.out u8); clear u8)
    have q0 : Hid (∀ w9, Below w8.heap.size w8 w9 → w9.cell? ⟨w.heap.size, 16, none⟩ = some (.int .u64 v16) ∧ w9.cell? ⟨w.heap.size, 24, none⟩ = some (.int .u32 v24) ∧ w9.cell? ⟨N2, 16, none⟩ = some (.int .u64 v16) ∧ w9.cell? ⟨N2, 22, none⟩ = some (.bool true) ∧ w9.cell? ⟨N2, 24, none⟩ = some (.int .u32 v24)) := fun w9 u => ⟨(S8.out.step u).cell Z16.out, (S8.out.step u).cell Z24.out, (R8.out.step u).cell B16.out, (R8.out.step u).cell B22.out, (R8.out.step u).cell B24.out⟩
    have q1 : Hid (∀ w9, Below w8.heap.size w8 w9 → w9.rangeAt w.heap.size 0 RC ∧ w9.rangeAt N2 0 RC) := fun w9 u => by
      have ra := range_take (n := 16) (S8.out.step u).all
      have rb := range_take (n := 16) (R8.out.step u).all
      rw [HRC.out] at ra
      rw [TB.out] at rb
      exact ⟨ra, rb⟩
    go_wp2_with (first | refine wpList_load_w (by rfl) 23 (.tmp 79) rfl N2 0 rfl RC _ q9.out.2 Try.underlying23 rfl I16.out ?_ | refine wpList_load_w (by rfl) 23 (.tmp 81) rfl w.heap.size 0 rfl RC _ q9.out.1 Try.underlying23 rfl I16.out ?_ | (go_at_call 12; refine (awake_calls _).mono ?_; rintro e w9 ⟨rfl, u9⟩; have S9 := Lib.hid (S8.out.step u9); obtain ⟨p1, p2, p3, p4, p5⟩ := q0.out _ u9; have q9 := Lib.hid (q1.out _ u9)))
    go_ret
    exact ⟨rfl, S9.out.bel⟩
end Go.Proofs.Ythgccppclkkohaa.Walks
