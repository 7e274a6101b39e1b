/- Walks through the functions of the statement, and the statement over them: each contract says what the call answers and that nothing else changes. -/
import Derived.Test.YthgccppclkkohaaProg
import Derived.Test.YthgccppclkkohaaWalkSeat
import Derived.Test.YthgccppclkkohaaWalkSeat2
import Derived.Test.YthgccppclkkohaaWalkUnpack
import Derived.Test.YthgccppclkkohaaWalkRefW
import Derived.Test.YthgccppclkkohaaBits
import Derived.Test.YthgccppclkkohaaHeap
import Derived.Test.YthgccppclkkohaaAid
import Derived.Lib.Hide
import Derived.Test.YthgccppclkkohaaArr
import Derived.Test.YthgccppclkkohaaEql
import Derived.WalkKit
import Derived.WalkSpells
import Derived.WalkLawsBesides
import Derived.Deep.QuietTactic
import Derived.BigQuiet
import Derived.Deep.RegionHeld3
import Derived.Deep.DeepCutAuto
import Derived.Deep.CutBlock
import Derived.Lib.SlBytesConst
import Derived.StillTailTactics
import Derived.Laws.MakeOwn
import Derived.Deep.AppendLies
import Derived.RegionTactic
import Derived.Deep.RegionLaw
namespace Go.Proofs.Ythgccppclkkohaa.Walks
set_option linter.unusedVariables false
set_option linter.unusedSimpArgs false
open Go.RowKit Go.Proofs.Ythgccppclkkohaa.Bits Go.Proofs.Ythgccppclkkohaa.Heap Go.Proofs.Ythgccppclkkohaa.Aid Go.Proofs.Ythgccppclkkohaa.Arr Go.Proofs.Ythgccppclkkohaa.Eql

/-- The post of a panic does not hang on the frame: said once. -/
theorem quiet_post {P : Program} {md : Region.Mode} {ops : Array Oper} {Q : Exit → Act → World → Prop} {S : World → Prop} {f : Nat} {l : Array Bool} {a : Act} {w : World}
    (h0 : ∀ c (a : Act) (d : Option Tmp) (v : Value) (w : World), Q (.panic c) (a.put d v) w → Q (.panic c) a w)
    (h : (∀ c (a : Act) (d : Option Tmp) (v : Value) (w : World), Q (.panic c) (a.put d v) w → Q (.panic c) a w) → wpAnyH P md ops Q S f l a w) : wpAnyH P md ops Q S f l a w := h h0
theorem row26 {w : World} {v : Value} {l : List Nat} (h : Row w enc64 v l) (hl : l.length = 26) : ∃ ad c, v = .slice (some ad) 26 c ∧ ∀ k, k < 26 → ∀ wx, Below w.heap.size w wx → wx.cell? (ad.add k) = some (.int .u64 ((l.getD k 0 : Nat) : Int)) := by
  rcases h with ⟨h, h0⟩ | ⟨ad, c', h, _, hc⟩
  · rw [h0] at hl; simp at hl
  · rw [hl] at h
    refine ⟨ad, c', h, fun k hk wx hb => ?_⟩
    have h2 := hc k _ (List.getElem?_eq_getElem (show k < l.length by omega))
    rw [hb.cell (World.block_lt_of_cell? w _ h2), h2, List.getD_eq_getElem?_getD, List.getElem?_eq_getElem (show k < l.length by omega)]
    rfl

set_option maxHeartbeats 4000000 in
theorem seatWords_walk (c0 : List Value) (w : World) (f0 : Fits w seSh c0) :
    Calls Try.prog 5 #[.agg c0.toArray] w fun e w' => e = .returned (.bool true) ∧ Below w.heap.size w w' := by
  obtain ⟨x0, rfl, h0⟩ := seat_of_fits f0
  clear f0
  have HN := Lib.hid (near_calls x0 h0)
  have L0 := Lib.hid h0.len
  have I0 := Lib.hid (info_se h0)
  have h := near_ok h0
  have b1 : (nearS x0).st ≤ 2 := by show x0.st % 3 ≤ 2; omega
  have b2 : (nearS x0).pe < 256 := by show x0.pe % 256 < 256; omega
  have b3 : (nearS x0).ma < 256 := by show x0.ma % 256 < 256; omega
  generalize nearS x0 = x at *
  have LX := Lib.hid h.len
  have IX := Lib.hid (info_se h)
  have OX := Lib.hid (Se.one x)
  have PX := Lib.hid (pack_calls _ h)
  have RX := Lib.hid (refWords_calls _ h)
  have KX := Lib.hid (packL_len h)
  have UX := Lib.hid (unpack_ok x h b1 b2 b3)
  have SC := Lib.hid (sum_calls x h)
  have RC := Lib.hid (refSum_calls x h)
  have EQ := Lib.hid (fun W : World => (eql_same (P := Try.prog) (w := W) (w0 := W) (n := 3) (t := 26) (s := seSh) (by kernel_rfl) (by omega) (by kernel_rfl) (h.fits W)).1)
  have hz := zero_val
  have HZL := Lib.hid zero_ok.len
  generalize hpl : packL x = pl at *
  generalize x.cells = XC at *
  generalize x0.cells = YC at *
  generalize zeroSe.cells = ZC at *
  generalize ((sumN pl : Nat) : Int) = sm at *
  have hzs : ZC.toArray.size = 26 := by simpa using HZL.out
  have hzn : ¬ ZC.toArray = #[] := fun h => by rw [h] at hzs; simp at hzs
  clear h h0 b1 b2 b3 hpl
  have X1 : Hid (Own w w.heap.size YC 26 (w.alloc (.cells YC.toArray 26))) := Own.newL (Below.refl _ _) _ _
  go_enter Try.func5, Try.ntmps5
  go_upto_region 1 with (fail)
  generalize w.alloc (.cells YC.toArray 26) = w1 at *
  go_upto_region 2 with (first | refine wpList_load_mid rfl 26 (.tmp 1) rfl w.heap.size 0 rfl YC _ X1.out.all Try.underlying26 rfl I0.out ?_ | (go_at_call 9; refine (HN.out _).mono ?_; rintro e w2 ⟨rfl, u2⟩; have X2 := Lib.hid (X1.out.step u2); clear u2) | refine wpList_store_mid rfl 26 (.tmp 1) (.tmp 9) rfl w.heap.size 0 XC.toArray rfl rfl (X2.out.there ?s1) ?s2 ?s3 ?_)
  case s1 => have h1 := LX.out; have h2 := L0.out; simp; omega
  case s2 => simpa using IX.out
  case s3 => first | exact OX.out | exact all_oneCell_toArray OX.out
  have X3 := Lib.hid (X2.out.setAll XC (by rw [LX.out, L0.out]))
  generalize World.setCells _ _ _ _ = w3 at *
  clear X1 X2 HN
  go_upto_region 4 with (first | refine wpList_load_mid rfl 26 (.tmp 1) rfl w.heap.size 0 rfl XC _ X3.out.all Try.underlying26 rfl IX.out ?_ | refine wpList_load_mid rfl 26 (.tmp 1) rfl w.heap.size 0 rfl XC _ X4.out.all Try.underlying26 rfl IX.out ?_ | (go_at_call 14; refine (PX.out _).mono ?_; rintro e w4 ⟨v4, rfl, r4, u4⟩; have X4 := Lib.hid (X3.out.step u4); have R4 := Lib.hid r4; clear u4 r4) | (go_at_call 15; refine (RX.out _).mono ?_; rintro e w5 ⟨v5, rfl, r5, u5⟩; have X5 := Lib.hid (X4.out.step u5); have R5 := Lib.hid r5; have U5 := Lib.hid u5; clear u5 r5))
  obtain ⟨ad, cp, rfl, ra⟩ := row26 R4.out KX.out
  obtain ⟨bd, dp, rfl, rb⟩ := row26 R5.out KX.out
  have RA := Lib.hid (fun k hk wx (hb : Below w5.heap.size w5 wx) => ra k hk wx (U5.out.trans (hb.mono U5.out.size)))
  have RB := Lib.hid rb
  clear ra rb R4 R5 X3 X4 PX RX
  go_wp2
  go_loopw [5] (fun i wr => ∃ k : Nat, k ≤ 26 ∧ i = .int .i64 k ∧ Below w5.heap.size w5 wr) (fun i _ => 26 - (intOf i).toNat)
  case atStart => exact ⟨0, by omega, rfl, Below.refl _ _⟩
  case round =>
    obtain ⟨k, hk, rfl, b2⟩ := hrel
    have B2 := Lib.hid b2
    clear b2
    have hk0 : 0 ≤ (k : Int) := by omega
    by_cases hlt : k < 26
    · have hk26 : (k : Int) < 26 := by omega
      have ca := RA.out k hlt _ B2.out
      have cb := RB.out k hlt _ B2.out
      generalize ((pl.getD k 0 : Nat) : Int) = va at *
      go_wp2
      go_quiet (fail)
      go_wp2
      go_roundw
      case rel => exact ⟨k + 1, by omega, by go_num, below_drewN B2.out _⟩
      case measure => simp [intOf]; omega
    · obtain rfl : k = 26 := by omega
      have X6 := Lib.hid (X5.out.step B2.out)
      have UC := Lib.hid (UX.out ad cp wr (fun k hk wx hb => RA.out k hk wx (B2.out.trans (hb.mono B2.out.size))))
      clear RA RB UX X5
      go_wp2_with fail
      refine UC.out.mono ?_
      rintro e w7 ⟨rfl, u7⟩
      have X7 := Lib.hid (X6.out.step u7)
      clear u7 UC X6
      have X8 := Lib.hid (X7.out.alloc (.cells ZC.toArray 26))
      have Y8 := Lib.hid (Own.newL X7.out.bel ZC 26)
      have NE := Lib.hid (Nat.ne_of_lt X7.out.lt)
      go_upto_region 12 with (refine wpList_store_mid rfl 26 (.tmp 6) (.tmp 37) rfl w7.heap.size 0 XC.toArray rfl rfl (Y8.out.there ?s1) ?s2 ?s3 ?_)
      case s1 => have h1 := HZL.out; have h2 := LX.out; simp; omega
      case s2 => simpa using IX.out
      case s3 => first | exact OX.out | exact all_oneCell_toArray OX.out
      have Y9 := Lib.hid (Y8.out.setAll XC (by rw [HZL.out, LX.out]))
      have X9 := Lib.hid (X8.out.setAllO (Ne.symm NE.out) X7.out.bel.size 0 XC)
      generalize World.setCells _ _ _ _ = w9 at *
      generalize w7.heap.size = N6 at *
      clear X7 X8 Y8
      have u26 := Try.underlying26
      have iX := IX.out
      have eX := EQ.out
      clear hz hzs hzn
      refine wp_region_noPanic ?_
      refine wp_region_held_drew (S := (fun w' => Own w w.heap.size XC 26 w' ∧ Own w N6 XC 26 w' ∧ w'.rangeAt w.heap.size 0 XC ∧ w'.rangeAt N6 0 XC)) (by kernel_rfl) ⟨X9.out.drewN 1, Y9.out.drewN 1, (X9.out.drewN 1).all, (Y9.out.drewN 1).all⟩ (fun hHeld => ?_)
      refine quiet_post (fun _ _ _ _ _ h => h) (fun hQ => ?_)
      have HQP := Lib.hid hQ
      clear hQ
      refine wpAnyH_ready (rs := [0]) (by kernel_rfl) (by simp) ?_
      refine AllReadyH.cons (o := ⟨some 39, _, _, _, _, _⟩) rfl (fun K hK => ?_) AllReadyH.nil
      go_simp
      go_at_call 12
      refine (awake_calls _).mono ?_
      rintro e wa ⟨rfl, ua⟩
      try dsimp only
      refine hK.out _ _ ⟨hHeld.1.step ua, hHeld.2.1.step ua, (hHeld.1.step ua).all, (hHeld.2.1.step ua).all⟩ (fun hHeld => ?_)
      clear hK K
      try simp only [Act.put, List.setIfInBounds_toArray, List.set_cons_zero, List.set_cons_succ]
      refine wpAnyH_take (i := 1) (oi := ⟨some 40, _, _, _, _, _⟩) (v := .bool true) rfl (by kernel_rfl) (by kernel_rfl) (by kernel_rfl) (fun c _ _ h => HQP.out c _ _ _ _ h) (Or.inl ⟨by rfl, fun w hSw => by dsimp only at hSw; go_split_ands; go_simp⟩) (by assumption) ?_
      simp only [Act.put, List.setIfInBounds_toArray, List.set_cons_zero, List.set_cons_succ]
      refine wpAnyH_take (i := 2) (oi := ⟨some 41, _, _, _, _, _⟩) (v := .bool true) rfl (by kernel_rfl) (by kernel_rfl) (by kernel_rfl) (fun c _ _ h => HQP.out c _ _ _ _ h) (Or.inl ⟨by rfl, fun w hSw => by dsimp only at hSw; go_split_ands; go_simp⟩) (by assumption) ?_
      simp only [Act.put, List.setIfInBounds_toArray, List.set_cons_zero, List.set_cons_succ]
      refine wpAnyH_take (i := 3) (oi := ⟨some 42, _, _, _, _, _⟩) (v := .bool true) rfl (by kernel_rfl) (by kernel_rfl) (by kernel_rfl) (fun c _ _ h => HQP.out c _ _ _ _ h) (Or.inl ⟨by rfl, fun w hSw => by dsimp only at hSw; go_split_ands; go_simp⟩) (by assumption) ?_
      simp only [Act.put, List.setIfInBounds_toArray, List.set_cons_zero, List.set_cons_succ]
      refine wpAnyH_take (i := 4) (oi := ⟨some 43, _, _, _, _, _⟩) (v := .bool true) rfl (by kernel_rfl) (by kernel_rfl) (by kernel_rfl) (fun c _ _ h => HQP.out c _ _ _ _ h) (Or.inl ⟨by rfl, fun w hSw => by dsimp only at hSw; go_split_ands; go_simp⟩) (by assumption) ?_
      simp only [Act.put, List.setIfInBounds_toArray, List.set_cons_zero, List.set_cons_succ]
      refine wpAnyH_take (i := 5) (oi := ⟨some 44, _, _, _, _, _⟩) rfl (by kernel_rfl) (by kernel_rfl) (by kernel_rfl) (fun c _ _ h => HQP.out c _ _ _ _ h) (yieldsIf_load_mid (by rfl) 26 _ rfl N6 0 rfl XC _ (fun _ h => h.2.2.2) u26 rfl iX) (by assumption) ?_
      simp only [Act.put, List.setIfInBounds_toArray, List.set_cons_zero, List.set_cons_succ]
      refine wpAnyH_take (i := 6) (oi := ⟨some 45, _, _, _, _, _⟩) rfl (by kernel_rfl) (by kernel_rfl) (by kernel_rfl) (fun c _ _ h => HQP.out c _ _ _ _ h) (yieldsIf_load_mid (by rfl) 26 _ rfl w.heap.size 0 rfl XC _ (fun _ h => h.2.2.1) u26 rfl iX) (by assumption) ?_
      simp only [Act.put, List.setIfInBounds_toArray, List.set_cons_zero, List.set_cons_succ]
      refine wpAnyH_take (i := 7) (oi := ⟨some 46, _, _, _, _, _⟩) (v := .bool true) rfl (by kernel_rfl) (by kernel_rfl) (by kernel_rfl) (fun c _ _ h => HQP.out c _ _ _ _ h) (Or.inl ⟨by rfl, fun w hSw => by dsimp only at hSw; go_split_ands; go_simp⟩) (by assumption) ?_
      simp only [Act.put, List.setIfInBounds_toArray, List.set_cons_zero, List.set_cons_succ]
      refine wpAnyH_take (i := 8) (oi := ⟨some 47, _, _, _, _, _⟩) (v := .bool true) rfl (by kernel_rfl) (by kernel_rfl) (by kernel_rfl) (fun c _ _ h => HQP.out c _ _ _ _ h) (Or.inl ⟨by rfl, fun w hSw => by dsimp only at hSw; go_split_ands; go_simp⟩) (by assumption) ?_
      simp only [Act.put, List.setIfInBounds_toArray, List.set_cons_zero, List.set_cons_succ]
      refine wpAnyH_take (i := 9) (oi := ⟨some 48, _, _, _, _, _⟩) (v := .bool true) rfl (by kernel_rfl) (by kernel_rfl) (by kernel_rfl) (fun c _ _ h => HQP.out c _ _ _ _ h) (Or.inl ⟨by rfl, fun w hSw => by dsimp only at hSw; go_split_ands; go_simp⟩) (by assumption) ?_
      simp only [Act.put, List.setIfInBounds_toArray, List.set_cons_zero, List.set_cons_succ]
      refine wpAnyH_take (i := 10) (oi := ⟨some 49, _, _, _, _, _⟩) rfl (by kernel_rfl) (by kernel_rfl) (by kernel_rfl) (fun c _ _ h => HQP.out c _ _ _ _ h) (yieldsIf_load_mid (by rfl) 26 _ rfl w.heap.size 0 rfl XC _ (fun _ h => h.2.2.1) u26 rfl iX) (by assumption) ?_
      simp only [Act.put, List.setIfInBounds_toArray, List.set_cons_zero, List.set_cons_succ]
      refine wpAnyH_take (i := 12) (oi := ⟨some 51, _, _, _, _, _⟩) rfl (by kernel_rfl) (by kernel_rfl) (by kernel_rfl) (fun c _ _ h => HQP.out c _ _ _ _ h) (yieldsIf_load_mid (by rfl) 26 _ rfl w.heap.size 0 rfl XC _ (fun _ h => h.2.2.1) u26 rfl iX) (by assumption) ?_
      simp only [Act.put, List.setIfInBounds_toArray, List.set_cons_zero, List.set_cons_succ]
      refine wpAnyH_ready (rs := [11]) (by kernel_rfl) (by simp) ?_
      refine AllReadyH.cons (o := ⟨some 50, _, _, _, _, _⟩) rfl (fun K hK => ?_) AllReadyH.nil
      go_simp
      go_at_call 17
      refine (SC.out _).mono ?_
      rintro e wb ⟨rfl, ub⟩
      try dsimp only
      refine hK.out _ _ ⟨hHeld.1.step ub, hHeld.2.1.step ub, (hHeld.1.step ub).all, (hHeld.2.1.step ub).all⟩ (fun hHeld => ?_)
      clear hK K
      try simp only [Act.put, List.setIfInBounds_toArray, List.set_cons_zero, List.set_cons_succ]
      refine wpAnyH_ready (rs := [13]) (by kernel_rfl) (by simp) ?_
      refine AllReadyH.cons (o := ⟨some 52, _, _, _, _, _⟩) rfl (fun K hK => ?_) AllReadyH.nil
      go_simp
      go_at_call 18
      refine (RC.out _).mono ?_
      rintro e wc ⟨rfl, uc⟩
      try dsimp only
      refine hK.out _ _ ⟨hHeld.1.step uc, hHeld.2.1.step uc, (hHeld.1.step uc).all, (hHeld.2.1.step uc).all⟩ (fun hHeld => ?_)
      clear hK K
      try simp only [Act.put, List.setIfInBounds_toArray, List.set_cons_zero, List.set_cons_succ]
      refine wpAnyH_take (i := 14) (oi := ⟨some 53, _, _, _, _, _⟩) (v := .bool true) rfl (by kernel_rfl) (by kernel_rfl) (by kernel_rfl) (fun c _ _ h => HQP.out c _ _ _ _ h) (Or.inl ⟨by rfl, fun w hSw => by dsimp only at hSw; go_split_ands; go_simp⟩) (by assumption) ?_
      simp only [Act.put, List.setIfInBounds_toArray, List.set_cons_zero, List.set_cons_succ]
      refine wpAnyH_take (i := 15) (oi := ⟨some 54, _, _, _, _, _⟩) (v := .bool true) rfl (by kernel_rfl) (by kernel_rfl) (by kernel_rfl) (fun c _ _ h => HQP.out c _ _ _ _ h) (Or.inl ⟨by rfl, fun w hSw => by dsimp only at hSw; go_split_ands; go_simp⟩) (by assumption) ?_
      simp only [Act.put, List.setIfInBounds_toArray, List.set_cons_zero, List.set_cons_succ]
      refine wpAnyH_take (i := 16) (oi := ⟨some 2, _, _, _, _, _⟩) (v := .bool true) rfl (by kernel_rfl) (by kernel_rfl) (by kernel_rfl) (fun c _ _ h => HQP.out c _ _ _ _ h) (Or.inl ⟨by rfl, fun w hSw => by dsimp only at hSw; go_split_ands; go_simp⟩) (by assumption) ?_
      simp only [Act.put, List.setIfInBounds_toArray, List.set_cons_zero, List.set_cons_succ]
      refine wpAnyH_done (by kernel_rfl) ?_ _
      refine NoPanic.normal ?_
      have XF := hHeld.1.bel
      go_wp2_with fail
      go_ret
      exact ⟨rfl, XF⟩
end Go.Proofs.Ythgccppclkkohaa.Walks
