/- Walks through the functions of the statement, and the statement over them: each contract says what the call answers and that nothing else changes. -/
import Derived.Test.YthgccppclkkohaaProg
import Derived.Test.YthgccppclkkohaaWalkSeat
import Derived.Test.YthgccppclkkohaaWalkSeat2
import Derived.Test.YthgccppclkkohaaBits
import Derived.Test.YthgccppclkkohaaHeap
import Derived.Test.YthgccppclkkohaaAid
import Derived.Lib.Hide
import Derived.Test.YthgccppclkkohaaArr
import Derived.Test.YthgccppclkkohaaEql
import Derived.WalkKit
import Derived.WalkSpells
import Derived.WalkLawsBesides
import Derived.Deep.QuietTactic
import Derived.BigQuiet
import Derived.Deep.RegionHeld3
import Derived.Deep.DeepCutAuto
import Derived.Deep.CutBlock
import Derived.Lib.SlBytesConst
import Derived.StillTailTactics
import Derived.Laws.MakeOwn
import Derived.Deep.AppendLies
import Derived.RegionTactic
import Derived.Deep.RegionLaw
namespace Go.Proofs.Ythgccppclkkohaa.Walks
set_option linter.unusedVariables false
set_option linter.unusedSimpArgs false
open Go.RowKit Go.Proofs.Ythgccppclkkohaa.Bits Go.Proofs.Ythgccppclkkohaa.Heap Go.Proofs.Ythgccppclkkohaa.Aid Go.Proofs.Ythgccppclkkohaa.Arr Go.Proofs.Ythgccppclkkohaa.Eql


theorem keepTwo {w w1 w2 : World} {b b2 : Nat} {cs cs2 : List Value} {t t2 : TypeId} (hb : Below w1.heap.size w1 w2) (h1 : Own w b cs t w1) (h2 : Own w b2 cs2 t2 w1) : Own w b cs t w2 ∧ Own w b2 cs2 t2 w2 ∧ w2.rangeAt b 0 cs ∧ w2.rangeAt b2 0 cs2 := ⟨h1.step hb, h2.step hb, (h1.step hb).all, (h2.step hb).all⟩
theorem trap_back {x : Se} (h : x.Ok) {c a : Nat} (hv : x.r.getD 18 0 ≠ 0) :
    (backS (trapS x c a)).r.getD 16 0 = x.r.getD 16 0 ∧ (backS (trapS x c a)).r.getD 20 0 = c ∧ (backS (trapS x c a)).r.getD 21 0 = a ∧ (backS (trapS x c a)).op = true := by
  have hl := h.l
  unfold backS trapS
  rw [if_neg hv]
  refine ⟨?_, ?_, ?_, rfl⟩ <;> simp [List.getD_eq_getElem?_getD, List.getElem?_set, hl]
set_option maxHeartbeats 4000000 in
theorem seatTraps_walk (cs : List Value) (ci ai : Int) (w : World) (f : Fits w seSh cs) (wc : (Lit.int .u64 ci).wf = true) (wa : (Lit.int .u64 ai).wf = true) :
    Calls Try.prog 3 #[.agg cs.toArray, .int .u64 ci, .int .u64 ai] w fun e w' => e = .returned (.bool true) ∧ Below w.heap.size w w' := by
  obtain ⟨x, rfl, h⟩ := seat_of_fits f
  obtain ⟨c, rfl, hc⟩ := wf_u64 wc
  obtain ⟨a, rfl, ha⟩ := wf_u64 wa
  have okt := Lib.hid (trap_ok (near_ok h) hc ha)
  have okb := Lib.hid (back_ok okt.out)
  have TK := Lib.hid (trap_calls _ (near_ok h) c a hc ha)
  have RT := Lib.hid (refTrap_calls _ (near_ok h) c a hc ha)
  have BK := Lib.hid (back_calls _ okt.out)
  have TB := Lib.hid (trap_back (near_ok h) (c := c) (a := a))
  have EQ := Lib.hid (fun W => eql_same (P := Try.prog) (w := W) (w0 := W) (n := 3) (t := 26) (s := seSh) (by kernel_rfl) (by omega) (by kernel_rfl) (okt.out.fits W))
  have IT := Lib.hid (info_se okt.out)
  have OT := Lib.hid (Se.one (trapS (nearS x) c a))
  have B16 := Lib.hid (okb.out.gr (i := 16) (by omega))
  have B20 := Lib.hid (okb.out.gr (i := 20) (by omega))
  have B21 := Lib.hid (okb.out.gr (i := 21) (by omega))
  have B22 := Lib.hid okb.out.g22
  have Y16 := Lib.hid ((near_ok h).gr (i := 16) (by omega))
  have Y18 := Lib.hid ((near_ok h).gr (i := 18) (by omega))
  generalize backS (trapS (nearS x) c a) = bz at *
  generalize trapS (nearS x) c a = tz at *
  generalize bz.cells = BC at *
  generalize tz.cells = TC at *
  clear wc wa
  have HN := Lib.hid (near_calls x h)
  have okn := Lib.hid (near_ok h)
  have LX := Lib.hid h.len
  have IX := Lib.hid (info_se h)
  have IN := Lib.hid (info_se okn.out)
  have LN := Lib.hid okn.out.len
  have ON := Lib.hid (Se.one (nearS x))
  have G22 := Lib.hid okn.out.g22
  have G23 := Lib.hid okn.out.g23
  have G24 := Lib.hid okn.out.g24
  have G25 := Lib.hid okn.out.g25
  have YP : Hid ((nearS x).pe < 256) := Nat.mod_lt _ (by omega)
  have YM : Hid ((nearS x).ma < 256) := Nat.mod_lt _ (by omega)
  have HA := Lib.hid (bits_and (k := .u32) rfl okn.out.p okn.out.m)
  have hz := zero_val
  have HZL := Lib.hid zero_ok.len
  clear f
  generalize nearS x = y at *
  generalize hY : y.cells = YC at *
  generalize x.cells = XC at *
  generalize zeroSe.cells = ZC at *
  have hzs : ZC.toArray.size = 26 := by simpa using HZL.out
  have hzn : ¬ ZC.toArray = #[] := fun h => by rw [h] at hzs; simp at hzs
  have HY := Lib.hid hY
  clear hY
  have X1 : Hid (Own w w.heap.size XC 26 (w.alloc (.cells XC.toArray 26))) := Own.newL (Below.refl _ _) _ _
  go_enter Try.func3, Try.ntmps3
  go_upto_region 1 with (fail)
  generalize w.alloc (.cells XC.toArray 26) = w1 at *
  go_upto_region 2 with (first | refine wpList_load_mid rfl 26 (.tmp 3) rfl w.heap.size 0 rfl XC _ X1.out.all Try.underlying26 rfl IX.out ?_ | (go_at_call 9; refine (HN.out _).mono ?_; rintro e w2 ⟨rfl, u2⟩; have X2 := Lib.hid (X1.out.step u2); clear u2) | refine wpList_store_mid rfl 26 (.tmp 3) (.tmp 9) rfl w.heap.size 0 YC.toArray rfl rfl (X2.out.there ?s1) ?s2 ?s3 ?_)
  case s1 => have h1 := LX.out; have h2 := LN.out; simp; omega
  case s2 => simpa using IN.out
  case s3 => first | exact ON.out | exact all_oneCell_toArray ON.out
  have X3 := Lib.hid (X2.out.setAll YC (by rw [LX.out, LN.out]))
  generalize World.setCells _ _ _ _ = w3 at *
  have Y4 := Lib.hid (Own.newL X3.out.bel ZC 26)
  have X4 := Lib.hid (X3.out.alloc (.cells ZC.toArray 26))
  have NE := Lib.hid (Nat.ne_of_lt X3.out.lt)
  go_upto_region 3 with (first | refine wpList_load_mid rfl 26 (.tmp 3) rfl w.heap.size 0 rfl YC _ X3.out.all Try.underlying26 rfl IN.out ?_ | refine wpList_store_mid rfl 26 (.tmp 7) (.tmp 10) rfl w3.heap.size 0 YC.toArray rfl rfl (Y4.out.there ?s1) ?s2 ?s3 ?_)
  case s1 => have h1 := HZL.out; have h2 := LN.out; simp; omega
  case s2 => simpa using IN.out
  case s3 => first | exact ON.out | exact all_oneCell_toArray ON.out
  have Y5 := Lib.hid (Y4.out.setAll YC (by rw [HZL.out, LN.out]))
  have X5 := Lib.hid (X4.out.setAllO (Ne.symm NE.out) X3.out.bel.size 0 YC)
  generalize World.setCells _ _ _ _ = w5 at *
  clear X1 X2 X3 X4 Y4
  have NE3 := NE
  generalize w3.heap.size = N2 at *
  generalize hv18 : y.r.getD 18 0 = n18 at *
  generalize hv16 : y.r.getD 16 0 = n16 at *
  clear hv18 hv16
  go_upto_region 4 with (go_at_call 10; refine (TK.out _ _ X5.out.k).mono ?_; rintro e w6 ⟨rfl, u6⟩; have X6 := Lib.hid (X5.out.upd u6); have Y6 := Lib.hid (Y5.out.updO NE3.out X5.out.n u6); clear u6)
  have hX := X6.out
  have hY := Y6.out
  have rX := X6.out.all
  have rY := Y6.out.all
  have u26 := Try.underlying26
  have iT := IT.out
  have iN := IN.out
  have oT := OT.out
  have oN := ON.out
  have ER := fun W => (EQ.out W).1
  have EN := fun W => (EQ.out W).2
  generalize w.heap.size = N at *
  have h1 := (hX.drewN 1)
  have h2 := (hY.drewN 1)
  refine wp_region_held_drew (S := fun w' => Own w N TC 26 w' ∧ Own w N2 YC 26 w' ∧ w'.rangeAt N 0 TC ∧ w'.rangeAt N2 0 YC) (by kernel_rfl) ⟨h1, h2, h1.all, h2.all⟩ (fun hHeld => ?_)
  refine wpAnyH_take (i := 0) rfl (by kernel_rfl) (by kernel_rfl) (by kernel_rfl) (fun _ _ _ h => h) (yieldsIf_load_mid (by rfl) 26 _ rfl N 0 rfl TC _ (fun _ h => h.2.2.1) u26 rfl iT) (by assumption) ?_
  refine wpAnyH_take (i := 1) rfl (by kernel_rfl) (by kernel_rfl) (by kernel_rfl) (fun _ _ _ h => h) (yieldsIf_load_mid (by rfl) 26 _ rfl N2 0 rfl YC _ (fun _ h => h.2.2.2) u26 rfl iN) (by assumption) ?_
  refine wpAnyH_take (i := 2) (v := .int .u64 (c : Int)) rfl (by kernel_rfl) (by kernel_rfl) (by kernel_rfl) (fun _ _ _ h => h) (Or.inl ⟨by rfl, fun w hSw => by go_simp⟩) (by assumption) ?_
  refine wpAnyH_take (i := 3) (v := .int .u64 (a : Int)) rfl (by kernel_rfl) (by kernel_rfl) (by kernel_rfl) (fun _ _ _ h => h) (Or.inl ⟨by rfl, fun w hSw => by go_simp⟩) (by assumption) ?_
  simp only [Act.put, List.setIfInBounds_toArray, List.set_cons_zero, List.set_cons_succ]
  refine wpAnyH_ready (rs := [4]) (by kernel_rfl) (by simp) ?_
  refine AllReadyH.cons rfl (fun K hK => ?_) AllReadyH.nil
  go_simp
  go_at_call 11
  refine (RT.out _).mono ?_
  rintro e w7 ⟨rfl, u7⟩
  have g1 := h1.step u7
  have g2 := h2.step u7
  try dsimp only
  refine hK.out _ _ ⟨g1, g2, g1.all, g2.all⟩ (fun hHeld => ?_)
  clear hK K
  try simp only [Act.put, List.setIfInBounds_toArray, List.set_cons_zero, List.set_cons_succ]
  refine wpAnyH_take (i := 5) (v := .bool false) rfl (by kernel_rfl) (by kernel_rfl) (by kernel_rfl) (fun _ _ _ h => h) (Or.inl ⟨by rfl, fun w hSw => by go_simp⟩) (by assumption) ?_
  try simp only [Act.put, List.setIfInBounds_toArray, List.set_cons_zero, List.set_cons_succ]
  refine wpAnyH_done (by kernel_rfl) ?_ _
  have X7 := Lib.hid g1
  have Y7 := Lib.hid g2
  have c18 := Y7.out.cell Y18.out
  rcases Nat.eq_zero_or_pos n18 with h0 | h0
  · subst h0
    clear TB
    go_wp2_with (first | (go_at_call 12; refine (awake_calls _).mono ?_; rintro e w9 ⟨rfl, u9⟩; have X9 := Lib.hid (X7.out.step u9)))
    go_ret
    exact ⟨rfl, X9.out.bel⟩
  · have hne : (((n18 : Nat) : Int) == 0) = false := by simp; omega
    obtain ⟨e16, e20, e21, e22⟩ := TB.out (by omega)
    rw [e16] at B16
    rw [e20] at B20
    rw [e21] at B21
    rw [e22] at B22
    clear TB e16 e20 e21 e22 h0
    generalize ((n18 : Nat) : Int) = v18 at *
    generalize ((n16 : Nat) : Int) = v16 at *
    generalize (c : Int) = vc at *
    generalize (a : Int) = va at *
    go_upto_region 9 with (go_at_call 13; refine (BK.out _ _ X7.out.k).mono ?_; rintro e w8 ⟨rfl, u8⟩; have X8 := Lib.hid (X7.out.upd u8); have Y8 := Lib.hid (Y7.out.updO NE3.out X7.out.n u8); clear u8)
    have q0 : Hid (∀ w9, Below w8.heap.size w8 w9 → w9.cell? ⟨N, 16, none⟩ = some (.int .u64 v16) ∧ w9.cell? ⟨N2, 16, none⟩ = some (.int .u64 v16) ∧ w9.cell? ⟨N, 22, none⟩ = some (.bool true) ∧ w9.cell? ⟨N, 20, none⟩ = some (.int .u64 vc) ∧ w9.cell? ⟨N, 21, none⟩ = some (.int .u64 va)) := fun w9 u => ⟨(X8.out.step u).cell B16.out, (Y8.out.step u).cell Y16.out, (X8.out.step u).cell B22.out, (X8.out.step u).cell B20.out, (X8.out.step u).cell B21.out⟩
    go_wp2_with (first | (go_at_call 12; refine (awake_calls _).mono ?_; rintro e w9 ⟨rfl, u9⟩; have X9 := Lib.hid (X8.out.step u9); obtain ⟨q1, q2, q3, q4, q5⟩ := q0.out _ u9))
    go_ret
    exact ⟨rfl, X9.out.bel⟩
end Go.Proofs.Ythgccppclkkohaa.Walks
