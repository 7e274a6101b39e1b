/- Walks through the functions of the statement, and the statement over them: each contract says what the call answers and that nothing else changes. -/
import Derived.Test.YthgccppclkkohaaProg
import Derived.Test.YthgccppclkkohaaWalkSeat
import Derived.Test.YthgccppclkkohaaWalkSeat2
import Derived.Test.YthgccppclkkohaaWalkUnpack
import Derived.Test.YthgccppclkkohaaWalkRefW
import Derived.Test.YthgccppclkkohaaBits
import Derived.Test.YthgccppclkkohaaHeap
import Derived.Test.YthgccppclkkohaaAid
import Derived.Lib.Hide
import Derived.Test.YthgccppclkkohaaArr
import Derived.Test.YthgccppclkkohaaEql
import Derived.WalkKit
import Derived.WalkSpells
import Derived.WalkLawsBesides
import Derived.Deep.QuietTactic
import Derived.BigQuiet
import Derived.Deep.RegionHeld3
import Derived.Deep.DeepCutAuto
import Derived.Deep.CutBlock
import Derived.Lib.SlBytesConst
import Derived.StillTailTactics
import Derived.Laws.MakeOwn
import Derived.Deep.AppendLies
import Derived.RegionTactic
import Derived.Deep.RegionLaw
namespace Go.Proofs.Ythgccppclkkohaa.Walks
set_option linter.unusedVariables false
set_option linter.unusedSimpArgs false
open Go.RowKit Go.Proofs.Ythgccppclkkohaa.Bits Go.Proofs.Ythgccppclkkohaa.Heap Go.Proofs.Ythgccppclkkohaa.Aid Go.Proofs.Ythgccppclkkohaa.Arr Go.Proofs.Ythgccppclkkohaa.Eql

theorem row26 {w : World} {v : Value} {l : List Nat} (h : Row w enc64 v l) (hl : l.length = 26) : ∃ ad c, v = .slice (some ad) 26 c ∧ ∀ k, k < 26 → ∀ wx, Below w.heap.size w wx → wx.cell? (ad.add k) = some (.int .u64 ((l.getD k 0 : Nat) : Int)) := by
  rcases h with ⟨h, h0⟩ | ⟨ad, c', h, _, hc⟩
  · rw [h0] at hl; simp at hl
  · rw [hl] at h
    refine ⟨ad, c', h, fun k hk wx hb => ?_⟩
    have h2 := hc k _ (List.getElem?_eq_getElem (show k < l.length by omega))
    rw [hb.cell (World.block_lt_of_cell? w _ h2), h2, List.getD_eq_getElem?_getD, List.getElem?_eq_getElem (show k < l.length by omega)]
    rfl
/-- Words that are a seat's. -/
def rightW (l : List Nat) : Bool := decide (l.length = 26) && (decide (l.getD 22 0 ≤ 1) && (decide (l.getD 23 0 ≤ 2) && (decide (l.getD 24 0 < 256) && decide (l.getD 25 0 < 256))))
def seatOf (l : List Nat) : Se := ⟨l.take 22, decide (l.getD 22 0 = 1), l.getD 23 0, l.getD 24 0, l.getD 25 0⟩
theorem rightW_spec {l : List Nat} (h : rightW l = true) : l.length = 26 ∧ l.getD 22 0 ≤ 1 ∧ l.getD 23 0 ≤ 2 ∧ l.getD 24 0 < 256 ∧ l.getD 25 0 < 256 := by
  unfold rightW at h
  simp only [Bool.and_eq_true, decide_eq_true_eq] at h
  exact h
theorem seatOf_ok {l : List Nat} (h : rightW l = true) (hw : ∀ y ∈ l, y < 2 ^ 64) : (seatOf l).Ok ∧ packL (seatOf l) = l := by
  obtain ⟨h0, h1, h2, h3, h4⟩ := rightW_spec h
  refine ⟨⟨by simp [seatOf, h0], fun y hy => hw y (List.mem_of_mem_take hy), by show l.getD 23 0 < 256; omega, by show l.getD 24 0 < 2 ^ 32; omega, by show l.getD 25 0 < 2 ^ 32; omega⟩, ?_⟩
  have e : flagN (decide (l.getD 22 0 = 1)) = l.getD 22 0 := by
    by_cases h5 : l.getD 22 0 = 1
    · rw [h5]; rfl
    · have : l.getD 22 0 = 0 := by omega
      rw [this]; rfl
  show l.take 22 ++ [flagN (decide (l.getD 22 0 = 1)), l.getD 23 0, l.getD 24 0, l.getD 25 0] = l
  rw [e]
  have h6 : (l.drop 22).length = 4 := by rw [List.length_drop, h0]
  have hd : ∀ i, i < 4 → l.getD (22 + i) 0 = (l.drop 22).getD i 0 := by
    intro i hi
    rw [List.getD_eq_getElem?_getD, List.getD_eq_getElem?_getD, List.getElem?_drop]
  conv => rhs; rw [← List.take_append_drop 22 l]
  rw [hd 0 (by omega), hd 1 (by omega), hd 2 (by omega), hd 3 (by omega)]
  match l.drop 22, h6 with
  | [a1, a2, a3, a4], _ => simp
/-- A slice that reads as a list, in whatever later world. -/
def RowAt (w : World) (a : Option Addr) (l : List Nat) : Prop := ∀ j, j < l.length → ∃ ad, a = some ad ∧ ∀ wx, Below w.heap.size w wx → wx.cell? (ad.add j) = some (.int .u64 ((l.getD j 0 : Nat) : Int))
theorem RowAt.at {w : World} {a : Option Addr} {l : List Nat} (h : RowAt w a l) (hl : l.length = 26) : ∃ ad, a = some ad ∧ ∀ j, j < 26 → ∀ wx, Below w.heap.size w wx → wx.cell? (ad.add j) = some (.int .u64 ((l.getD j 0 : Nat) : Int)) := by
  obtain ⟨ad, rfl, _⟩ := h 0 (by omega)
  refine ⟨ad, rfl, fun j hj wx hb => ?_⟩
  obtain ⟨ad', e, h1⟩ := h j (by omega)
  obtain rfl := Option.some.inj e
  exact h1 wx hb
theorem RowAt.later {w w1 : World} {a : Option Addr} {l : List Nat} (h : RowAt w a l) (hb : Below w.heap.size w w1) : RowAt w1 a l := fun j hj => by
  obtain ⟨ad, e, h1⟩ := h j hj
  exact ⟨ad, e, fun wx hx => h1 wx (hb.trans (hx.mono hb.size))⟩
set_option maxRecDepth 8000 in
set_option maxHeartbeats 4000000 in
theorem unpack_bad (l : List Nat) (a : Option Addr) (cp : Nat) (w : World) (hl : l.length ≤ 9223372036854775807) (hr : RowAt w a l) (hbad : rightW l = false) :
    Calls Try.prog 16 #[.slice a l.length cp] w fun e w' => e = .returned (.tuple #[.agg zeroSe.cells.toArray, .bool false]) ∧ Below w.heap.size w w' := by
  have hz := zero_val
  have HZL := Lib.hid zero_ok.len
  have IZ := Lib.hid (info_se zero_ok)
  have OZ := Lib.hid (Se.one zeroSe)
  have HR := Lib.hid hr
  have HB := Lib.hid hbad
  clear hr hbad
  generalize zeroSe.cells = ZC at *
  have hzs : ZC.toArray.size = 26 := by simpa using HZL.out
  have hzn : ¬ ZC.toArray = #[] := fun h => by rw [h] at hzs; simp at hzs
  have R1 := Lib.hid (Own.newL (Below.refl _ w) ZC 26)
  go_enter Try.func16, Try.ntmps16
  go_upto_region 1 with (fail)
  generalize w.alloc (.cells ZC.toArray 26) = w1 at *
  have TH := Lib.hid (R1.out.there (n := 26) (by rw [HZL.out]; omega))
  by_cases h26 : l.length = 26
  · obtain ⟨ad, rfl, rc⟩ := HR.out.at h26
    rw [h26]
    have c22 := rc 22 (by omega) _ R1.out.bel
    have c23 := rc 23 (by omega) _ R1.out.bel
    have c24 := rc 24 (by omega) _ R1.out.bel
    have c25 := rc 25 (by omega) _ R1.out.bel
    simp [Addr.add] at c22 c23 c24 c25
    have HB2 : Hid (¬ (l.getD 22 0 ≤ 1 ∧ l.getD 23 0 ≤ 2 ∧ l.getD 24 0 < 256 ∧ l.getD 25 0 < 256)) := fun h => by
      have h1 := HB.out
      unfold rightW at h1
      rw [decide_eq_true h26, decide_eq_true h.1, decide_eq_true h.2.1, decide_eq_true h.2.2.1, decide_eq_true h.2.2.2] at h1
      cases h1
    clear rc HR HB
    simp only [List.getD_eq_getElem?_getD] at HB2
    generalize l[22]?.getD 0 = n22 at *
    generalize l[23]?.getD 0 = n23 at *
    generalize l[24]?.getD 0 = n24 at *
    generalize l[25]?.getD 0 = n25 at *
    clear h26 hl
    have HC : Hid (1 < n22 ∨ (n22 ≤ 1 ∧ 2 < n23) ∨ (n22 ≤ 1 ∧ n23 ≤ 2 ∧ 256 ≤ n24) ∨ (n22 ≤ 1 ∧ n23 ≤ 2 ∧ n24 < 256 ∧ 256 ≤ n25)) := by
      show _ ∨ _
      have := HB2.out
      omega
    clear HB2
    rcases HC.out with h | ⟨h1, h⟩ | ⟨h1, h2, h⟩ | ⟨h1, h2, h3, h⟩
    · have d1 : decide (1 < (n22 : Int)) = true := decide_eq_true (by omega)
      go_wp2_with (refine wpList_store_mid rfl 26 (.tmp 2) (.tmp 32) rfl w.heap.size 0 ZC.toArray rfl rfl (R1.out.there ?s1) ?s2 ?s3 ?_)
      case s1 => simp
      case s2 => simpa using IZ.out
      case s3 => first | exact OZ.out | exact all_oneCell_toArray OZ.out
      have R2 := Lib.hid (R1.out.setAll ZC rfl)
      refine bodyPost_ret (v := .tuple #[.agg ZC.toArray, .bool false]) (results_ct Try.results16 _ _ w.heap.size ZC _ rfl R2.out.all Try.underlying26 rfl IZ.out) rfl ⟨rfl, R2.out.bel⟩
    · have d1 : decide (1 < (n22 : Int)) = false := decide_eq_false (by omega)
      have d2 : decide (2 < (n23 : Int)) = true := decide_eq_true (by omega)
      go_wp2_with (refine wpList_store_mid rfl 26 (.tmp 2) (.tmp 32) rfl w.heap.size 0 ZC.toArray rfl rfl (R1.out.there ?s1) ?s2 ?s3 ?_)
      case s1 => simp
      case s2 => simpa using IZ.out
      case s3 => first | exact OZ.out | exact all_oneCell_toArray OZ.out
      have R2 := Lib.hid (R1.out.setAll ZC rfl)
      refine bodyPost_ret (v := .tuple #[.agg ZC.toArray, .bool false]) (results_ct Try.results16 _ _ w.heap.size ZC _ rfl R2.out.all Try.underlying26 rfl IZ.out) rfl ⟨rfl, R2.out.bel⟩
    · have d1 : decide (1 < (n22 : Int)) = false := decide_eq_false (by omega)
      have d2 : decide (2 < (n23 : Int)) = false := decide_eq_false (by omega)
      have d3 : decide (256 ≤ (n24 : Int)) = true := decide_eq_true (by omega)
      go_wp2_with (refine wpList_store_mid rfl 26 (.tmp 2) (.tmp 32) rfl w.heap.size 0 ZC.toArray rfl rfl (R1.out.there ?s1) ?s2 ?s3 ?_)
      case s1 => simp
      case s2 => simpa using IZ.out
      case s3 => first | exact OZ.out | exact all_oneCell_toArray OZ.out
      have R2 := Lib.hid (R1.out.setAll ZC rfl)
      refine bodyPost_ret (v := .tuple #[.agg ZC.toArray, .bool false]) (results_ct Try.results16 _ _ w.heap.size ZC _ rfl R2.out.all Try.underlying26 rfl IZ.out) rfl ⟨rfl, R2.out.bel⟩
    · have d1 : decide (1 < (n22 : Int)) = false := decide_eq_false (by omega)
      have d2 : decide (2 < (n23 : Int)) = false := decide_eq_false (by omega)
      have d3 : decide (256 ≤ (n24 : Int)) = false := decide_eq_false (by omega)
      have d4 : decide (256 ≤ (n25 : Int)) = true := decide_eq_true (by omega)
      go_wp2_with (refine wpList_store_mid rfl 26 (.tmp 2) (.tmp 32) rfl w.heap.size 0 ZC.toArray rfl rfl (R1.out.there ?s1) ?s2 ?s3 ?_)
      case s1 => simp
      case s2 => simpa using IZ.out
      case s3 => first | exact OZ.out | exact all_oneCell_toArray OZ.out
      have R2 := Lib.hid (R1.out.setAll ZC rfl)
      refine bodyPost_ret (v := .tuple #[.agg ZC.toArray, .bool false]) (results_ct Try.results16 _ _ w.heap.size ZC _ rfl R2.out.all Try.underlying26 rfl IZ.out) rfl ⟨rfl, R2.out.bel⟩
  · have d1 : ((l.length : Int) == 26) = false := by simp; omega
    have d2 : ((l.length : Int) != 26) = true := by simp; omega
    clear h26 HB HR
    go_wp2_with (refine wpList_store_mid rfl 26 (.tmp 2) (.tmp 32) rfl w.heap.size 0 ZC.toArray rfl rfl (R1.out.there ?s1) ?s2 ?s3 ?_)
    case s1 => simp
    case s2 => simpa using IZ.out
    case s3 => first | exact OZ.out | exact all_oneCell_toArray OZ.out
    have R2 := Lib.hid (R1.out.setAll ZC rfl)
    refine bodyPost_ret (v := .tuple #[.agg ZC.toArray, .bool false]) (results_ct Try.results16 _ _ w.heap.size ZC _ rfl R2.out.all Try.underlying26 rfl IZ.out) rfl ⟨rfl, R2.out.bel⟩
theorem rowAt_of {w : World} {v : Value} {l : List Nat} (h : Row w enc64 v l) : ∃ a cp, v = .slice a l.length cp ∧ RowAt w a l := by
  rcases h with ⟨h, h0⟩ | ⟨ad, c', h, _, hc⟩
  · subst h0
    exact ⟨none, 0, h, fun j hj => by simp at hj⟩
  · refine ⟨some ad, c', h, fun j hj => ⟨ad, rfl, fun wx hb => ?_⟩⟩
    have h2 := hc j _ (List.getElem?_eq_getElem hj)
    rw [hb.cell (World.block_lt_of_cell? w _ h2), h2, List.getD_eq_getElem?_getD, List.getElem?_eq_getElem hj]
    rfl
theorem rowAt_blk {w : World} {g : Nat} {l : List Nat} {sp : List Value} {t : TypeId} (h : Blk w g (l.map enc64 ++ sp) t) : RowAt w (some ⟨g, 0, none⟩) l := fun j hj => ⟨_, rfl, fun wx hb => by
  have h2 : w.cell? ((⟨g, 0, none⟩ : Addr).add j) = some (.int .u64 ((l.getD j 0 : Nat) : Int)) := by
    rw [add_blk]
    refine h.cellAt ?_
    rw [List.getElem?_append_left (by simpa using hj), List.getElem?_map, List.getD_eq_getElem?_getD, List.getElem?_eq_getElem hj]; rfl
  rw [hb.cell (World.block_lt_of_cell? w _ h2), h2]⟩
theorem setL_lt {l : List Nat} {i v : Nat} (h : ∀ y ∈ l, y < 2 ^ 64) (hv : v < 2 ^ 64) : ∀ y ∈ l.set i v, y < 2 ^ 64 := by
  intro y hy
  rcases List.mem_or_eq_of_mem_set hy with h1 | h1
  · exact h y h1
  · rw [h1]; exact hv
theorem take_getD {l : List Nat} {n j : Nat} (h : j < n) : (l.take n).getD j 0 = l.getD j 0 := by
  rw [List.getD_eq_getElem?_getD, List.getD_eq_getElem?_getD, List.getElem?_take_of_lt h]
theorem RowAt.take {w : World} {a : Option Addr} {l : List Nat} (h : RowAt w a l) (n : Nat) : RowAt w a (l.take n) := fun j hj => by
  have hj2 : j < n ∧ j < l.length := by rw [List.length_take] at hj; omega
  obtain ⟨ad, e, h1⟩ := h j hj2.2
  exact ⟨ad, e, by rw [take_getD hj2.1]; exact h1⟩
set_option maxRecDepth 100000 in
set_option maxHeartbeats 4000000 in
theorem seatReads_walk (v0 : Value) (c1 : List Value) (a2 a3 : Int) (w : World) (f0 : Fits w (.slice (.int .u64)) [v0]) (f1 : Fits w seSh c1) (w2 : (Lit.int .u8 a2).wf = true) (w3 : (Lit.int .u64 a3).wf = true) :
    Calls Try.prog 6 #[v0, .agg c1.toArray, .int .u8 a2, .int .u64 a3] w fun e w' => e = .returned (.bool true) ∧ Below w.heap.size w w' := by
  obtain ⟨l0, r0, hl0, hm0⟩ := words_row f0
  obtain ⟨x0, rfl, h0⟩ := seat_of_fits f1
  obtain ⟨at_, rfl, hat⟩ := wf_u8 w2
  obtain ⟨wv, rfl, hwv⟩ := wf_u64 w3
  obtain ⟨av, cv, rfl, ra0⟩ := rowAt_of r0
  clear f0 f1 w2 w3 r0
  have hm1 : l0.length ≤ 9223372036854775807 := by unfold maxLen at hm0; omega
  have hm2 : (l0.length : Int) ≤ 9223372036854775807 := by omega
  have RA0 := Lib.hid ra0
  have HL0 := Lib.hid hl0
  have HM0 := Lib.hid hm1
  clear ra0 hl0 hm0 hm1
  have HN := Lib.hid (near_calls x0 h0)
  have I0 := Lib.hid (info_se h0)
  have h := near_ok h0
  generalize nearS x0 = x at *
  have RX := Lib.hid (refWords_own _ h)
  have KX := Lib.hid (packL_len h)
  have KL := Lib.hid (packL_lt h)
  have hz := zero_val
  have HZL := Lib.hid zero_ok.len
  have EZ := Lib.hid (fun W : World => (eql_same (P := Try.prog) (w := W) (w0 := W) (n := 3) (t := 26) (s := seSh) (by kernel_rfl) (by omega) (by kernel_rfl) (zero_ok.fits W)).2)
  generalize packL x = pl at *
  generalize x.cells = XC0 at *
  generalize x0.cells = YC at *
  have hm26 : (at_ : Int) % 26 = ((at_ % 26 : Nat) : Int) := by omega
  have hm27 : at_ % 26 < 26 := by omega
  have ha0 : 0 ≤ (at_ : Int) := by omega
  have ha1 : (at_ : Int) < 256 := by omega
  have HM26 := Lib.hid hm26
  clear h h0 hm26
  have X1 : Hid (Own w w.heap.size YC 26 (w.alloc (.cells YC.toArray 26))) := Own.newL (Below.refl _ _) _ _
  go_enter Try.func6, Try.ntmps6
  go_upto_region 1 with (fail)
  generalize w.alloc (.cells YC.toArray 26) = w1 at *
  go_wp2_with fail
  refine (awake_calls _).mono ?_
  rintro e w2 ⟨rfl, u2⟩
  have X2 := Lib.hid (X1.out.step u2)
  clear u2 X1
  by_cases h40 : 40 < l0.length
  · have hd : decide (40 < (l0.length : Int)) = true := decide_eq_true (by omega)
    go_wp2_with fail
    refine (awake_calls _).mono ?_
    rintro e w3 ⟨rfl, u3⟩
    have X3 := Lib.hid (X2.out.step u3)
    clear u3
    go_wp2_with fail
    go_ret
    exact ⟨rfl, X3.out.bel⟩
  · have hd : decide (40 < (l0.length : Int)) = false := decide_eq_false (by omega)
    go_upto_region 4 with (first | refine wpList_load_mid rfl 26 (.tmp 5) rfl w.heap.size 0 rfl YC _ X2.out.all Try.underlying26 rfl I0.out ?_ | (go_at_call 9; refine (HN.out _).mono ?_; rintro e w3 ⟨rfl, u3⟩; have X3 := Lib.hid (X2.out.step u3); clear u3) | (go_at_call 15; refine (RX.out _).mono ?_; rintro e w4 ⟨v4, rfl, r4, u4⟩; have Z4 := Lib.hid X3.out.bel.size; have X4 := Lib.hid (X3.out.step u4); rw [KX.out] at r4; obtain ⟨g, cap, sp, rfl, hg, hcap, hcm, hblk⟩ := sl_form r4 (by omega); have G4 := Lib.hid hblk; have GL := Lib.hid hg; clear u4 r4 hblk hg))
    obtain ⟨j, hm26, hj⟩ : ∃ j : Nat, (at_ : Int) % 26 = (j : Int) ∧ j < 26 := ⟨at_ % 26, HM26.out, hm27⟩
    have hj0 : 0 ≤ (j : Int) := by omega
    have hj26 : (j : Int) < 26 := by omega
    have E4 : Hid (Own w g (pl.map enc64 ++ sp) 22 w4) := ⟨X4.out.bel, by have := Z4.out; have := GL.out; omega, G4.out⟩
    have NE : Hid (g ≠ w.heap.size) := by have h1 := GL.out; have h2 := X3.out.lt; exact Lib.hid (by omega)
    have cj : (pl.map enc64 ++ sp)[j]? = some (.int .u64 ((pl.getD j 0 : Nat) : Int)) := by
      have hk := KX.out
      rw [List.getElem?_append_left (by rw [List.length_map]; omega), List.getElem?_map, List.getD_eq_getElem?_getD, List.getElem?_eq_getElem (show j < pl.length by omega)]; rfl
    have c4 := E4.out.cell cj
    have f4 := E4.out.fro j
    have E5 := Lib.hid (E4.out.set j (.int .u64 (wv : Int)))
    rw [show (pl.map enc64 ++ sp).set j (.int .u64 (wv : Int)) = (pl.set j wv).map enc64 ++ sp by
      have hk := KX.out
      rw [List.set_append_left _ _ (by rw [List.length_map]; omega), List.map_set]; rfl] at E5
    have X5 := Lib.hid (X4.out.setO NE.out E4.out.n j (.int .u64 (wv : Int)))
    have LM := Lib.hid (show (pl.set j wv).length = 26 by rw [List.length_set, KX.out])
    have WM := Lib.hid (setL_lt (i := j) KL.out hwv)
    clear cj KX KL X2 X3 X4 E4 G4 GL Z4 HN RX I0
    go_upto_region 5 with (fail)
    generalize w4.setCell ⟨g, j, none⟩ (.int .u64 (wv : Int)) = w5 at *
    generalize pl.set j wv = m at *
    clear c4 f4 hm26 hj0 hj26 hj HM26 hm27 ha0 ha1 hat
    have hc25 : (25 : Int) ≤ (cap : Int) := by omega
    have hc26 : 25 ≤ cap := by omega
    have RM := Lib.hid (rowAt_blk E5.out.k)
    have RA5 := Lib.hid (RA0.out.later E5.out.bel)
    go_wp2_with fail
    have H6 := Lib.hid (Own.new E5.out.bel #[.slice av l0.length cv, .slice (some ⟨g, 0, none⟩) 26 cap, .slice (some ⟨g, 0, none⟩) 25 cap] 34)
    generalize hw6 : w5.alloc (.cells #[.slice av l0.length cv, .slice (some ⟨g, 0, none⟩) 26 cap, .slice (some ⟨g, 0, none⟩) 25 cap] 34) = w6 at *
    have B6 : Hid (Below w5.heap.size w5 w6) := by rw [← hw6]; exact (Below.refl _ _).alloc (Nat.le_refl _) _
    clear hw6
    have VK : Hid (∀ k : Nat, k < 3 → ∃ (a : Option Addr) (lk : List Nat) (cp : Nat), [Value.slice av l0.length cv, .slice (some ⟨g, 0, none⟩) 26 cap, .slice (some ⟨g, 0, none⟩) 25 cap][k]? = some (.slice a lk.length cp) ∧ RowAt w5 a lk ∧ (∀ y ∈ lk, y < 2 ^ 64) ∧ lk.length ≤ 9223372036854775807) := fun k hk => by
      have hl := LM.out
      match k, hk with
      | 0, _ => exact ⟨av, l0, cv, rfl, RA5.out, HL0.out, HM0.out⟩
      | 1, _ => exact ⟨_, m, cap, by rw [hl]; rfl, RM.out, WM.out, by omega⟩
      | 2, _ => exact ⟨_, m.take 25, cap, by rw [List.length_take, hl]; rfl, RM.out.take 25, fun y hy => WM.out y (List.mem_of_mem_take hy), by rw [List.length_take]; omega⟩
    simp only [Array.toList] at H6
    generalize [Value.slice av l0.length cv, .slice (some ⟨g, 0, none⟩) 26 cap, .slice (some ⟨g, 0, none⟩) 25 cap] = SC at *
    go_loopw [40] (fun i wr => ∃ k : Nat, k ≤ 3 ∧ i = .int .i64 k ∧ Below w5.heap.size w5 wr ∧ Own w w5.heap.size SC 34 wr) (fun i _ => 3 - (intOf i).toNat)
    case atStart => exact ⟨0, by omega, rfl, B6.out, H6.out⟩
    case round =>
      clear H6 B6
      obtain ⟨k, hk, rfl, b2, o2⟩ := hrel
      have BX := Lib.hid b2
      have HX := Lib.hid o2
      clear b2 o2
      by_cases hlt : k < 3
      · obtain ⟨a, lk, cp, hck, hra, hlw, hln⟩ := VK.out k hlt
        have c1 := HX.out.cell hck
        have hk0 : 0 ≤ (k : Int) := by omega
        have hk3 : (k : Int) < 3 := by omega
        have RK := Lib.hid hra
        have WK := Lib.hid hlw
        clear hck hra hlw
        cases hright : rightW lk with
        | true =>
          have hsp := rightW_spec hright
          have hso := seatOf_ok hright WK.out
          have hl26 := hsp.1
          have hs1 : (seatOf lk).st ≤ 2 := hsp.2.2.1
          have hs2 : (seatOf lk).pe < 256 := hsp.2.2.2.1
          have hs3 : (seatOf lk).ma < 256 := hsp.2.2.2.2
          have HSP := Lib.hid hsp
          obtain ⟨ad, rfl, rc⟩ := RK.out.at hl26
          have RC := Lib.hid rc
          clear rc hsp hright
          rw [hl26] at c1
          have UC := Lib.hid (unpack_ok (seatOf lk) hso.1 hs1 hs2 hs3 ad cp wr (fun j hj wx hb => by rw [hso.2]; exact RC.out j hj wx (BX.out.trans (hb.mono BX.out.size))))
          have LX := Lib.hid hso.1.len
          have IX := Lib.hid (info_se hso.1)
          have OX := Lib.hid (Se.one (seatOf lk))
          have PX := Lib.hid (refWords_calls _ hso.1)
          rw [hso.2] at PX
          clear hso hs1 hs2 hs3 hln
          have HL26 := Lib.hid hl26
          clear hl26
          generalize (seatOf lk).cells = XC at *
          generalize zeroSe.cells = ZC at *
          have hzs : ZC.toArray.size = 26 := by simpa using HZL.out
          have hzn : ¬ ZC.toArray = #[] := fun h => by rw [h] at hzs; simp at hzs
          go_wp2_with fail
          refine (UC.out).mono ?_
          rintro e w7 ⟨rfl, u7⟩
          have H7 := Lib.hid (HX.out.step u7)
          have B7 := Lib.hid (BX.out.trans (u7.mono BX.out.size))
          clear u7 BX HX
          clear UC
          have H8 := Lib.hid (H7.out.alloc (.cells ZC.toArray 26))
          have T8 := Lib.hid (Own.newL H7.out.bel ZC 26)
          have B8 := Lib.hid (B7.out.alloc B7.out.size (.cells ZC.toArray 26))
          have NE8 := Lib.hid (Nat.ne_of_lt H7.out.lt)
          go_upto_region 9 with (refine wpList_store_mid rfl 26 (.tmp 12) (.tmp 47) rfl w7.heap.size 0 XC.toArray rfl rfl (T8.out.there ?s1) ?s2 ?s3 ?_)
          case s1 => have h1 := HZL.out; have h2 := LX.out; simp; omega
          case s2 => simpa using IX.out
          case s3 => first | exact OX.out | exact all_oneCell_toArray OX.out
          have T9 := Lib.hid (T8.out.setAll XC (by have := HZL.out; have := LX.out; omega))
          have H9 := Lib.hid (H8.out.setAllO (Ne.symm NE8.out) T8.out.n 0 XC)
          have B9 := Lib.hid (below_setCells B8.out B7.out.size 0 XC)
          generalize World.setCells _ _ _ _ = w9 at *
          generalize w7.heap.size = N12 at *
          clear H7 H8 T8 B7 B8 NE8
          have c22 := RC.out 22 (by omega) _ B9.out
          have c23 := RC.out 23 (by omega) _ B9.out
          have c24 := RC.out 24 (by omega) _ B9.out
          have c25 := RC.out 25 (by omega) _ B9.out
          simp [Addr.add] at c22 c23 c24 c25
          have q22 : decide (((lk.getD 22 0 : Nat) : Int) ≤ 1) = true := decide_eq_true (by have := HSP.out; omega)
          have q23 : decide (((lk.getD 23 0 : Nat) : Int) ≤ 2) = true := decide_eq_true (by have := HSP.out; omega)
          have q24 : decide (((lk.getD 24 0 : Nat) : Int) < 256) = true := decide_eq_true (by have := HSP.out; omega)
          have q25 : decide (((lk.getD 25 0 : Nat) : Int) < 256) = true := decide_eq_true (by have := HSP.out; omega)
          simp only [List.getD_eq_getElem?_getD] at q22 q23 q24 q25
          generalize ((lk[22]?.getD 0 : Nat) : Int) = n22 at *
          generalize ((lk[23]?.getD 0 : Nat) : Int) = n23 at *
          generalize ((lk[24]?.getD 0 : Nat) : Int) = n24 at *
          generalize ((lk[25]?.getD 0 : Nat) : Int) = n25 at *
          go_upto_region 13 with (fail)
          clear q22 q23 q24 q25 c22 c23 c24 c25 c1
          go_wp2_with (first | refine wpList_load_mid rfl 26 (.tmp 12) rfl N12 0 rfl XC _ T9.out.all Try.underlying26 rfl IX.out ?_ | (go_at_call 15; refine (PX.out _).mono ?_; rintro e w10 ⟨v10, rfl, r10, u10⟩; have B10 := Lib.hid (B9.out.trans (u10.mono B9.out.size)); have H10 := Lib.hid (H9.out.step u10); have R10 := Lib.hid r10; clear u10 r10))
          obtain ⟨bd, dp, rfl, rb⟩ := row26 R10.out HL26.out
          have RB := Lib.hid rb
          clear rb R10 PX T9
          go_loopw [16] (fun i wq => ∃ c : Nat, c ≤ 26 ∧ i = .int .i64 c ∧ Below w10.heap.size w10 wq) (fun i _ => 26 - (intOf i).toNat)
          case atStart => exact ⟨0, by omega, rfl, Below.refl _ _⟩
          case round =>
            obtain ⟨c, hc, rfl, b3⟩ := hrel
            rename_i wq
            have B3 := Lib.hid b3
            clear b3
            by_cases hc26 : c < 26
            · have hc0 : 0 ≤ (c : Int) := by omega
              have hci : (c : Int) < 26 := by omega
              have ca := RC.out c hc26 _ (B10.out.trans (B3.out.mono B10.out.size))
              have cb := RB.out c hc26 _ B3.out
              generalize ((lk.getD c 0 : Nat) : Int) = va at *
              go_wp2_with fail
              go_quiet (fail)
              go_wp2_with fail
              go_roundw
              case rel => exact ⟨c + 1, by omega, by go_num, below_drewN B3.out _⟩
              case measure => simp [intOf]; omega
            · obtain rfl : c = 26 := by omega
              have H11 := Lib.hid (H10.out.step B3.out)
              have B11 := Lib.hid (B10.out.trans (B3.out.mono B10.out.size))
              go_wp2_with fail
              go_roundw
              case rel => exact ⟨k + 1, by omega, by go_num, B11.out, H11.out⟩
              case measure => simp [intOf]; omega
        | false =>
          have UC := Lib.hid (unpack_bad lk a cp wr hln (RK.out.later BX.out) hright)
          have IZ := Lib.hid (info_se zero_ok)
          have OZ := Lib.hid (Se.one zeroSe)
          have HR := Lib.hid hright
          clear hright
          generalize zeroSe.cells = ZC at *
          have hzs : ZC.toArray.size = 26 := by simpa using HZL.out
          have hzn : ¬ ZC.toArray = #[] := fun h => by rw [h] at hzs; simp at hzs
          go_wp2_with fail
          refine (UC.out).mono ?_
          rintro e w7 ⟨rfl, u7⟩
          have H7 := Lib.hid (HX.out.step u7)
          have B7 := Lib.hid (BX.out.trans (u7.mono BX.out.size))
          clear u7 BX HX
          clear UC
          have H8 := Lib.hid (H7.out.alloc (.cells ZC.toArray 26))
          have T8 := Lib.hid (Own.newL H7.out.bel ZC 26)
          have B8 := Lib.hid (B7.out.alloc B7.out.size (.cells ZC.toArray 26))
          have NE8 := Lib.hid (Nat.ne_of_lt H7.out.lt)
          go_upto_region 9 with (refine wpList_store_mid rfl 26 (.tmp 12) (.tmp 47) rfl w7.heap.size 0 ZC.toArray rfl rfl (T8.out.there ?s1) ?s2 ?s3 ?_)
          case s1 => simp
          case s2 => simpa using IZ.out
          case s3 => first | exact OZ.out | exact all_oneCell_toArray OZ.out
          have T9 := Lib.hid (T8.out.setAll ZC (by have := HZL.out; have := HZL.out; omega))
          have H9 := Lib.hid (H8.out.setAllO (Ne.symm NE8.out) T8.out.n 0 ZC)
          have B9 := Lib.hid (below_setCells B8.out B7.out.size 0 ZC)
          generalize World.setCells _ _ _ _ = w9 at *
          generalize w7.heap.size = N12 at *
          clear H7 H8 T8 B7 B8 NE8
          have eZ := EZ.out
          by_cases h26 : lk.length = 26
          · obtain ⟨ad, rfl, rc⟩ := RK.out.at h26
            have RC := Lib.hid rc
            clear rc c1
            rw [h26]
            have c22 := RC.out 22 (by omega) _ B9.out
            have c23 := RC.out 23 (by omega) _ B9.out
            have c24 := RC.out 24 (by omega) _ B9.out
            have c25 := RC.out 25 (by omega) _ B9.out
            simp [Addr.add] at c22 c23 c24 c25
            have HB2 : Hid (¬ (lk.getD 22 0 ≤ 1 ∧ lk.getD 23 0 ≤ 2 ∧ lk.getD 24 0 < 256 ∧ lk.getD 25 0 < 256)) := fun h => by
              have h1 := HR.out
              unfold rightW at h1
              rw [decide_eq_true h26, decide_eq_true h.1, decide_eq_true h.2.1, decide_eq_true h.2.2.1, decide_eq_true h.2.2.2] at h1
              cases h1
            clear RK HR RC h26 hln
            simp only [List.getD_eq_getElem?_getD] at HB2
            generalize lk[22]?.getD 0 = n22 at *
            generalize lk[23]?.getD 0 = n23 at *
            generalize lk[24]?.getD 0 = n24 at *
            generalize lk[25]?.getD 0 = n25 at *
            have HC : Hid (1 < n22 ∨ (n22 ≤ 1 ∧ 2 < n23) ∨ (n22 ≤ 1 ∧ n23 ≤ 2 ∧ 256 ≤ n24) ∨ (n22 ≤ 1 ∧ n23 ≤ 2 ∧ n24 < 256 ∧ 256 ≤ n25)) := by
              show _ ∨ _
              have := HB2.out
              omega
            clear HB2
            rcases HC.out with h | ⟨h1, h⟩ | ⟨h1, h2, h⟩ | ⟨h1, h2, h3, h⟩
            · have d1 : decide ((n22 : Int) ≤ 1) = false := decide_eq_false (by omega)
              go_wp2_with (refine wpList_load_w (by rfl) 26 (.tmp 12) rfl N12 0 rfl ZC _ T9.out.all Try.underlying26 rfl IZ.out ?_)
              go_roundw
              case rel => exact ⟨k + 1, by omega, by go_num, B9.out, H9.out⟩
              case measure => simp [intOf]; omega
            · have d1 : decide ((n22 : Int) ≤ 1) = true := decide_eq_true (by omega)
              have d2 : decide ((n23 : Int) ≤ 2) = false := decide_eq_false (by omega)
              go_wp2_with (refine wpList_load_w (by rfl) 26 (.tmp 12) rfl N12 0 rfl ZC _ T9.out.all Try.underlying26 rfl IZ.out ?_)
              go_roundw
              case rel => exact ⟨k + 1, by omega, by go_num, B9.out, H9.out⟩
              case measure => simp [intOf]; omega
            · have d1 : decide ((n22 : Int) ≤ 1) = true := decide_eq_true (by omega)
              have d2 : decide ((n23 : Int) ≤ 2) = true := decide_eq_true (by omega)
              have d3 : decide ((n24 : Int) < 256) = false := decide_eq_false (by omega)
              go_wp2_with (refine wpList_load_w (by rfl) 26 (.tmp 12) rfl N12 0 rfl ZC _ T9.out.all Try.underlying26 rfl IZ.out ?_)
              go_roundw
              case rel => exact ⟨k + 1, by omega, by go_num, B9.out, H9.out⟩
              case measure => simp [intOf]; omega
            · have d1 : decide ((n22 : Int) ≤ 1) = true := decide_eq_true (by omega)
              have d2 : decide ((n23 : Int) ≤ 2) = true := decide_eq_true (by omega)
              have d3 : decide ((n24 : Int) < 256) = true := decide_eq_true (by omega)
              have d4 : decide ((n25 : Int) < 256) = false := decide_eq_false (by omega)
              go_wp2_with (refine wpList_load_w (by rfl) 26 (.tmp 12) rfl N12 0 rfl ZC _ T9.out.all Try.underlying26 rfl IZ.out ?_)
              go_roundw
              case rel => exact ⟨k + 1, by omega, by go_num, B9.out, H9.out⟩
              case measure => simp [intOf]; omega
          · have d1 : ¬ (lk.length : Int) = 26 := by omega
            have d2 : ((lk.length : Int) == 26) = false := beq_false_of_ne (by omega)
            clear h26 HR RK
            go_wp2_with (refine wpList_load_w (by rfl) 26 (.tmp 12) rfl N12 0 rfl ZC _ T9.out.all Try.underlying26 rfl IZ.out ?_)
            go_roundw
            case rel => exact ⟨k + 1, by omega, by go_num, B9.out, H9.out⟩
            case measure => simp [intOf]; omega
      · obtain rfl : k = 3 := by omega
        have XF := HX.out.bel
        go_wp2_with fail
        go_ret
        exact ⟨rfl, XF⟩
end Go.Proofs.Ythgccppclkkohaa.Walks
