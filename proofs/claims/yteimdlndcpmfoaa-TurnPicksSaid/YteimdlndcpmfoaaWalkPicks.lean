/- Walks through the functions of the statement, and the statement over them: each contract says what the call answers and that nothing else changes. -/
import Derived.Test.YteimdlndcpmfoaaProg
import Derived.Test.YteimdlndcpmfoaaBits
import Derived.Test.YteimdlndcpmfoaaHeap
import Derived.Test.YteimdlndcpmfoaaAid
import Derived.Lib.Hide
import Derived.Test.YteimdlndcpmfoaaArr
import Derived.Test.YteimdlndcpmfoaaWalkReady
import Derived.Test.YteimdlndcpmfoaaEql
import Derived.WalkKit
import Derived.WalkSpells
import Derived.WalkLawsBesides
import Derived.Deep.QuietTactic
import Derived.BigQuiet
import Derived.Deep.DeepCutAuto
import Derived.Deep.CutBlock
import Derived.Lib.SlBytesConst
namespace Go.Proofs.Yteimdlndcpmfoaa.Walks
set_option linter.unusedVariables false
open Go.RowKit Go.Proofs.Yteimdlndcpmfoaa.Bits Go.Proofs.Yteimdlndcpmfoaa.Heap Go.Proofs.Yteimdlndcpmfoaa.Aid Go.Proofs.Yteimdlndcpmfoaa.Arr Go.Proofs.Yteimdlndcpmfoaa.Eql

/-- The most turns of those that are ready, of the first k; the least seat from d on that has so many. -/
def mostF (t : List Int) (r : List Bool) : Nat → Int
  | 0 => -1
  | k + 1 => if r.getD k false = true ∧ mostF t r k < t.getD k 0 then t.getD k 0 else mostF t r k
def wantF (v : List Int) (r : List Bool) (m : Int) : Nat → Int
  | 0 => -1
  | k + 1 => if r.getD (17 - k) false = true ∧ v.getD (17 - k) 0 = m then ((17 - k : Nat) : Int) else wantF v r m k
theorem mostF_succ (t : List Int) (r : List Bool) (k : Nat) : mostF t r (k + 1) = if r.getD k false = true ∧ mostF t r k < t.getD k 0 then t.getD k 0 else mostF t r k := rfl
theorem wantF_succ (v : List Int) (r : List Bool) (m : Int) (k : Nat) : wantF v r m (k + 1) = if r.getD (17 - k) false = true ∧ v.getD (17 - k) 0 = m then ((17 - k : Nat) : Int) else wantF v r m k := rfl
theorem near_ge (l : List Int) (i : Nat) : 0 ≤ (nearL l).getD i 0 := by
  unfold nearL
  rw [List.getD_eq_getElem?_getD, List.getElem?_map]
  cases l[i]? <;> simp
  omega
theorem best_spec (t : List Int) (r : List Bool) (k : Nat) :
    (best t r k < 0 → ∀ i, i < k → r.getD i false = false) ∧
    (0 ≤ best t r k → r.getD (best t r k).toNat false = true ∧ (∀ i, i < k → r.getD i false = true → t.getD i 0 ≤ t.getD (best t r k).toNat 0) ∧ (∀ i, i < (best t r k).toNat → r.getD i false = true → t.getD i 0 < t.getD (best t r k).toNat 0)) := by
  induction k with
  | zero => exact ⟨fun _ i h => by omega, fun h => by simp [best] at h⟩
  | succ k ih =>
    have hr := best_range t r k
    rw [best_succ]
    by_cases hc : r.getD k false = true ∧ (best t r k < 0 ∨ t.getD k 0 > t.getD (best t r k).toNat 0)
    · rw [if_pos hc]
      refine ⟨fun h => by omega, fun _ => ?_⟩
      rw [Int.toNat_natCast]
      refine ⟨hc.1, fun i hi hri => ?_, fun i hi hri => ?_⟩
      · by_cases e : i = k
        · subst e; exact Int.le_refl _
        · rcases hc.2 with h | h
          · rw [ih.1 h i (by omega)] at hri; cases hri
          · by_cases hb : best t r k < 0
            · rw [ih.1 hb i (by omega)] at hri; cases hri
            · have := (ih.2 (by omega)).2.1 i (by omega) hri; omega
      · rcases hc.2 with h | h
        · rw [ih.1 h i (by omega)] at hri; cases hri
        · by_cases hb : best t r k < 0
          · rw [ih.1 hb i (by omega)] at hri; cases hri
          · have := (ih.2 (by omega)).2.1 i (by omega) hri; omega
    · rw [if_neg hc]
      refine ⟨fun h i hi => ?_, fun h => ?_⟩
      · by_cases e : i = k
        · subst e
          cases hrk : r.getD i false with
          | false => rfl
          | true => exact absurd ⟨hrk, Or.inl h⟩ hc
        · exact ih.1 h i (by omega)
      · obtain ⟨h1, h2, h3⟩ := ih.2 h
        refine ⟨h1, fun i hi hri => ?_, h3⟩
        by_cases e : i = k
        · subst e
          by_cases hlt : t.getD i 0 > t.getD (best t r i).toNat 0
          · exact absurd ⟨hri, Or.inr hlt⟩ hc
          · omega
        · exact h2 i (by omega) hri
theorem most_best (t : List Int) (r : List Bool) (h0 : ∀ i, 0 ≤ t.getD i 0) (k : Nat) : mostF t r k = if best t r k < 0 then -1 else t.getD (best t r k).toNat 0 := by
  induction k with
  | zero => simp [mostF, best]
  | succ k ih =>
    have hk := h0 k
    have hb := h0 (best t r k).toNat
    rw [mostF, ih, best_succ]
    by_cases hneg : best t r k < 0
    · rw [if_pos hneg]
      by_cases hr : r.getD k false = true
      · have c1 : r.getD k false = true ∧ -1 < t.getD k 0 := ⟨hr, by omega⟩
        have c2 : r.getD k false = true ∧ (best t r k < 0 ∨ t.getD k 0 > t.getD (best t r k).toNat 0) := ⟨hr, Or.inl hneg⟩
        have c3 : ¬ (k : Int) < 0 := by omega
        rw [if_pos c1, if_pos c2, if_neg c3, Int.toNat_natCast]
      · have c1 : ¬ (r.getD k false = true ∧ -1 < t.getD k 0) := fun h => hr h.1
        have c2 : ¬ (r.getD k false = true ∧ (best t r k < 0 ∨ t.getD k 0 > t.getD (best t r k).toNat 0)) := fun h => hr h.1
        rw [if_neg c1, if_neg c2, if_pos hneg]
    · rw [if_neg hneg]
      by_cases hc : r.getD k false = true ∧ t.getD (best t r k).toNat 0 < t.getD k 0
      · have c2 : r.getD k false = true ∧ (best t r k < 0 ∨ t.getD k 0 > t.getD (best t r k).toNat 0) := ⟨hc.1, Or.inr hc.2⟩
        have c3 : ¬ (k : Int) < 0 := by omega
        rw [if_pos hc, if_pos c2, if_neg c3, Int.toNat_natCast]
      · have c2 : ¬ (r.getD k false = true ∧ (best t r k < 0 ∨ t.getD k 0 > t.getD (best t r k).toNat 0)) := fun h => h.2.elim hneg (fun h2 => hc ⟨h.1, h2⟩)
        rw [if_neg hc, if_neg c2, if_neg hneg]
theorem want_best (v : List Int) (r : List Bool) (hb : 0 ≤ best v r 18) (k : Nat) (hk : k ≤ 18) :
    wantF v r (v.getD (best v r 18).toNat 0) k = if best v r 18 ≥ 18 - k then best v r 18 else wantF v r (v.getD (best v r 18).toNat 0) k := by
  have hr := best_range v r 18
  obtain ⟨h1, h2, h3⟩ := (best_spec v r 18).2 hb
  induction k with
  | zero => rw [if_neg (by omega)]
  | succ k ih =>
    by_cases hge : best v r 18 ≥ 18 - ((k + 1 : Nat) : Int)
    · rw [if_pos hge, wantF]
      by_cases e : best v r 18 = ((17 - k : Nat) : Int)
      · have e' : (best v r 18).toNat = 17 - k := by omega
        have c1 : r.getD (17 - k) false = true ∧ v.getD (17 - k) 0 = v.getD (best v r 18).toNat 0 := ⟨by rw [← e']; exact h1, by rw [← e']⟩
        rw [if_pos c1]
        exact e.symm
      · have hlt : 17 - k < (best v r 18).toNat := by omega
        rw [if_neg (by rintro ⟨a, b⟩; have := h3 _ hlt a; omega), ih (by omega), if_pos (by omega)]
    · rw [if_neg hge]
theorem want_18 (v : List Int) (r : List Bool) (hb : 0 ≤ best v r 18) : wantF v r (v.getD (best v r 18).toNat 0) 18 = best v r 18 := by
  rw [want_best v r hb 18 (Nat.le_refl _), if_pos (by omega)]
theorem wantF_step (v : List Int) (r : List Bool) (m : Int) (j : Nat) (hj : j < 18) : wantF v r m (18 - j) = if r.getD j false = true ∧ v.getD j 0 = m then (j : Int) else wantF v r m (18 - (j + 1)) := by
  have e : 18 - j = (17 - j) + 1 := by omega
  have e2 : 18 - (j + 1) = 17 - j := by omega
  have e3 : 17 - (17 - j) = j := by omega
  rw [e, wantF_succ, e2, e3]
theorem full_bound (i : Nat) : 0 ≤ full.getD i 0 ∧ full.getD i 0 ≤ 3 := by
  by_cases hi : i < 18
  · rw [full_get i hi]; omega
  · rw [List.getD_eq_getElem?_getD, List.getElem?_eq_none (by simp [full]; omega)]; decide
theorem mem_bound {u : List Int} (h : ∀ i, 0 ≤ u.getD i 0 ∧ u.getD i 0 ≤ 3) {d : Nat} {y : Int} (hy : 1 ≤ y ∧ y ≤ 3) : ∀ x ∈ u.set d (y - 1), 0 ≤ x ∧ x ≤ 3 := by
  intro x hx
  rcases List.mem_or_eq_of_mem_set hx with h1 | h1
  · obtain ⟨i, hi, rfl⟩ := List.getElem_of_mem h1
    have := h i
    rw [List.getD_eq_getElem?_getD, List.getElem?_eq_getElem hi] at this
    simpa using this
  · omega
theorem eqTurns : eqSh Try.prog 5 25 = some (.rep 18 (.int .i64)) := by kernel_rfl
theorem near_le (l : List Int) (hx : ∀ x ∈ l, 0 ≤ x ∧ x ≤ 255) : ∀ i, (nearL l).getD i 0 ≤ 3 := fun i => by
  unfold nearL
  rw [List.getD_eq_getElem?_getD, List.getElem?_map]
  cases l[i]? <;> simp
  omega
theorem wf_small {x : Int} (h : -1 ≤ x ∧ x ≤ 3) : (Lit.int .i64 x).wf = true := by
  simp [Lit.wf, IntKind.min, IntKind.max, IntKind.signed, IntKind.bits]; omega
theorem sizeU18 : (Try.prog.info? 22).map (·.size) = some 18 := by kernel_rfl
set_option maxHeartbeats 2000000 in
theorem picks_calls (l : List Int) (hl : l.length = 18) (hx : ∀ x ∈ l, 0 ≤ x ∧ x ≤ 255) (q : Int) (hq0 : 0 ≤ q) (hq1 : q ≤ 4294967295) (w : World) :
    Calls Try.prog 3 #[.agg (l.map (Value.int .u8)).toArray, .int .u32 q] w fun e w' => e = .returned (.bool true) ∧ Below w.heap.size w w' := by
  have N1 := Lib.hid (fun w => near_calls l hl hx w)
  have R1 := Lib.hid (fun w => ready_calls q hq0 hq1 w)
  have IU := Lib.hid (show (Try.prog.info? 22).map (·.size) = some (l.map (Value.int .u8)).length by rw [List.length_map, hl, sizeU18])
  obtain ⟨T, hT⟩ : ∃ T, (nearL l).map (Value.int .i64) = T := ⟨_, rfl⟩
  obtain ⟨R, hR⟩ : ∃ R, (readyL q).map Value.bool = R := ⟨_, rfl⟩
  rw [hT] at N1
  rw [hR] at R1
  have LT := Lib.hid (show T.length = 18 by rw [← hT]; simp [nearL, hl])
  have LR := Lib.hid (show R.length = 18 by rw [← hR]; simp [readyL])
  have OT : Hid (∀ v ∈ T, v.oneCell' = true) := by rw [← hT]; exact one_ints .i64 _
  have OR : Hid (∀ v ∈ R, v.oneCell' = true) := by rw [← hR]; exact one_bools _
  generalize hU : l.map (Value.int .u8) = U at *
  clear hU
  go_enter Try.func3, Try.ntmps3
  go_upto_region 1 with (fail)
  obtain ⟨w1, hw1⟩ : ∃ w1, w.alloc (.cells U.toArray 22) = w1 := ⟨_, rfl⟩
  have A1 : Hid (Below w.heap.size w w1) := by rw [← hw1]; exact (Below.refl _ _).alloc (Nat.le_refl _) _
  have bU : Hid (Blk w1 w.heap.size U 22) := by rw [← hw1]; exact Blk.new w U.toArray _
  rw [hw1]
  clear hw1
  go_wp2_with (refine wpList_load_mid rfl 22 (.tmp 2) rfl w.heap.size 0 rfl U _ (range_all bU.out) Try.underlying22 rfl IU.out ?_)
  refine (N1.out _).mono ?_
  rintro e w2 ⟨rfl, hb⟩
  have A2 := Lib.hid (A1.out.trans (hb.mono A1.out.size))
  clear hb bU A1
  go_upto_region 2 with (refine wpList_store_mid rfl 25 (.tmp 5) (.tmp 16) rfl w2.heap.size 0 T.toArray rfl rfl (there_of_blk (Blk.new w2 _ 25) ?s1) ?s2 ?s3 ?_)
  case s1 => have := LT.out; simp; omega
  case s2 => have := LT.out; rw [size18I]; simp; omega
  case s3 => first | exact OT.out | exact all_oneCell_toArray OT.out
  obtain ⟨w3, hw3⟩ : ∃ w3, (w2.alloc (.cells #[.int .i64 0, .int .i64 0, .int .i64 0, .int .i64 0, .int .i64 0, .int .i64 0, .int .i64 0, .int .i64 0, .int .i64 0, .int .i64 0, .int .i64 0, .int .i64 0, .int .i64 0, .int .i64 0, .int .i64 0, .int .i64 0, .int .i64 0, .int .i64 0] 25)).setCells w2.heap.size 0 T = w3 := ⟨_, rfl⟩
  obtain ⟨n1, n2, n3⟩ := new_stored w2 _ 25 T (by rw [LT.out]; rfl) w3 hw3
  rw [hw3]
  have BT3 := Lib.hid n1
  have A3 := Lib.hid (A2.out.trans (n2.mono A2.out.size))
  have S3 : Hid (w.heap.size ≤ w2.heap.size ∧ w2.heap.size < w3.heap.size) := ⟨A2.out.size, by omega⟩
  clear hw3 n1 n2 n3 A2
  generalize w2.heap.size = M5 at *
  go_wp2_with fail
  refine (R1.out _).mono ?_
  rintro e w4 ⟨rfl, hb⟩
  have A4 := Lib.hid (A3.out.trans (hb.mono A3.out.size))
  have BT4 := Lib.hid (BT3.out.below hb S3.out.2)
  have S4 : Hid (w.heap.size ≤ M5 ∧ M5 < w4.heap.size) := ⟨S3.out.1, Nat.lt_of_lt_of_le S3.out.2 hb.size⟩
  clear hb A3 BT3 S3
  go_upto_region 3 with (refine wpList_store_mid rfl 27 (.tmp 6) (.tmp 18) rfl w4.heap.size 0 R.toArray rfl rfl (there_of_blk (Blk.new w4 _ 27) ?s1) ?s2 ?s3 ?_)
  case s1 => have := LR.out; simp; omega
  case s2 => have := LR.out; rw [size18B]; simp; omega
  case s3 => first | exact OR.out | exact all_oneCell_toArray OR.out
  obtain ⟨w5, hw5⟩ : ∃ w5, (w4.alloc (.cells #[.bool false, .bool false, .bool false, .bool false, .bool false, .bool false, .bool false, .bool false, .bool false, .bool false, .bool false, .bool false, .bool false, .bool false, .bool false, .bool false, .bool false, .bool false] 27)).setCells w4.heap.size 0 R = w5 := ⟨_, rfl⟩
  obtain ⟨n1, n2, n3⟩ := new_stored w4 _ 27 R (by rw [LR.out]; rfl) w5 hw5
  rw [hw5]
  have BR5 := Lib.hid n1
  have BT5 := Lib.hid (BT4.out.below n2 S4.out.2)
  have A5 := Lib.hid (A4.out.trans (n2.mono A4.out.size))
  have S5 : Hid (w.heap.size ≤ M5 ∧ M5 < w4.heap.size ∧ w4.heap.size < w5.heap.size) := ⟨S4.out.1, S4.out.2, by omega⟩
  clear hw5 n1 n2 n3 A4 BT4 S4
  generalize w4.heap.size = M6 at *
  have IT := Lib.hid (show (Try.prog.info? 25).map (·.size) = some T.length by rw [LT.out, size18I])
  have IR := Lib.hid (show (Try.prog.info? 27).map (·.size) = some R.length by rw [LR.out, size18B])
  go_wp2_with (first | refine wpList_load_mid rfl 25 (.tmp 5) rfl M5 0 rfl T _ (range_all BT5.out) Try.underlying25 rfl IT.out ?_ | refine wpList_load_mid rfl 27 (.tmp 6) rfl M6 0 rfl R _ (range_all BR5.out) Try.underlying27 rfl IR.out ?_)
  have PC := pick_calls (nearL l) (readyL q) (by simp [nearL, hl]) (by simp [readyL]) (near_le l hx) w5
  rw [hT, hR] at PC
  refine PC.mono ?_
  clear PC
  rintro e w6 ⟨rfl, hb⟩
  obtain ⟨V, hV⟩ : ∃ V, (pick (nearL l) (readyL q)).1.map (Value.int .i64) = V := ⟨_, rfl⟩
  rw [hV]
  have LV := Lib.hid (show V.length = 18 by rw [← hV, List.length_map, pick_length _ _ (by simp [nearL, hl])])
  have OV : Hid (∀ v ∈ V, v.oneCell' = true) := by rw [← hV]; exact one_ints .i64 _
  have A6 := Lib.hid (A5.out.trans (hb.mono A5.out.size))
  have BT6 := Lib.hid (BT5.out.below hb (Nat.lt_trans S5.out.2.1 S5.out.2.2))
  have BR6 := Lib.hid (BR5.out.below hb S5.out.2.2)
  have S6 : Hid (w.heap.size ≤ M5 ∧ M5 < M6 ∧ M6 < w6.heap.size) := ⟨S5.out.1, S5.out.2.1, Nat.lt_of_lt_of_le S5.out.2.2 hb.size⟩
  clear hb A5 BT5 BR5 S5
  go_upto_region 4 with (refine wpList_store_mid rfl 25 (.tmp 7) (.tmp 23) rfl w6.heap.size 0 V.toArray rfl rfl (there_of_blk (Blk.new w6 _ 25) ?s1) ?s2 ?s3 ?_)
  case s1 => have := LV.out; simp; omega
  case s2 => have := LV.out; rw [size18I]; simp; omega
  case s3 => first | exact OV.out | exact all_oneCell_toArray OV.out
  obtain ⟨w7, hw7⟩ : ∃ w7, (w6.alloc (.cells #[.int .i64 0, .int .i64 0, .int .i64 0, .int .i64 0, .int .i64 0, .int .i64 0, .int .i64 0, .int .i64 0, .int .i64 0, .int .i64 0, .int .i64 0, .int .i64 0, .int .i64 0, .int .i64 0, .int .i64 0, .int .i64 0, .int .i64 0, .int .i64 0] 25)).setCells w6.heap.size 0 V = w7 := ⟨_, rfl⟩
  obtain ⟨n1, n2, n3⟩ := new_stored w6 _ 25 V (by rw [LV.out]; rfl) w7 hw7
  rw [hw7]
  have BV7 := Lib.hid n1
  have BT7 := Lib.hid (BT6.out.below n2 (Nat.lt_trans S6.out.2.1 S6.out.2.2))
  have BR7 := Lib.hid (BR6.out.below n2 S6.out.2.2)
  have A7 := Lib.hid (A6.out.trans (n2.mono A6.out.size))
  have S7 : Hid (w.heap.size ≤ M5 ∧ M5 < M6 ∧ M6 < w6.heap.size ∧ w6.heap.size < w7.heap.size) := ⟨S6.out.1, S6.out.2.1, S6.out.2.2, by omega⟩
  clear hw7 n1 n2 n3 A6 BT6 BR6 S6
  generalize w6.heap.size = M7 at *
  have CT : Hid (∀ (m i : Nat), i < 18 → (w7.drewN m).cell? ⟨M5, i, none⟩ = some (.int .i64 ((nearL l).getD i 0))) := fun m i hi => by
    refine BT7.out.cellAt ?_
    rw [← hT, List.getElem?_map]
    simp [List.getD, List.getElem?_eq_getElem (show i < (nearL l).length by simp [nearL, hl, hi])]
  have CR : Hid (∀ (m i : Nat), i < 18 → (w7.drewN m).cell? ⟨M6, i, none⟩ = some (.bool ((readyL q).getD i false))) := fun m i hi => by
    refine BR7.out.cellAt ?_
    rw [← hR, List.getElem?_map]
    simp [List.getD, List.getElem?_eq_getElem (show i < (readyL q).length by simp [readyL, hi])]
  have DR : Hid (∀ m n, ∃ q, (w7.drewN m).drewN n = w7.drewN q) := fun m n => ⟨m + n, by rw [World.drewN_drewN]⟩
  have H0 : Hid (∀ i, 0 ≤ (nearL l).getD i 0 ∧ (nearL l).getD i 0 ≤ 3) := fun i => ⟨near_ge l i, near_le l hx i⟩
  have HT := Lib.hid hT
  have HR := Lib.hid hR
  have HV := Lib.hid hV
  have LN : Hid ((nearL l).length = 18) := (List.length_map ..).trans hl
  have LQ : Hid ((readyL q).length = 18) := by show (readyL q).length = 18; simp [readyL]
  clear hT hR hV hl hx hq0 hq1 N1 R1 IU
  generalize nearL l = t at *
  generalize readyL q = r at *
  go_wp2_with fail
  go_loopw [9, 10] (fun b i wr => ∃ k : Nat, k ≤ 18 ∧ i = .int .i64 k ∧ b = .int .i64 (mostF t r k) ∧ ∃ m, wr = w7.drewN m) (fun _ i _ => 18 - (intOf i).toNat)
  case atStart => exact ⟨0, by omega, rfl, rfl, 0, rfl⟩
  case round =>
    obtain ⟨k, hk, rfl, rfl, m, rfl⟩ := hrel
    by_cases hlt : k < 18
    · have hki : (k : Int) < 18 := by omega
      have hk0 : 0 ≤ (k : Int) := by omega
      have hck := CT.out m k hlt
      have hcr := CR.out m k hlt
      have DM : Hid (∃ q, w7.drewN m = w7.drewN q) := ⟨m, rfl⟩
      have HS := Lib.hid (mostF_succ t r k)
      clear CT CR
      generalize mostF t r k = b at *
      generalize t.getD k 0 = x at *
      generalize w7.drewN m = w8 at *
      cases hrk : r.getD k false with
      | false =>
        rw [hrk] at hcr HS
        clear hrk
        go_wp2_with fail
        go_roundw
        case rel => exact ⟨k + 1, by omega, by go_num, by rw [HS.out, if_neg (by simp)], DM.out⟩
        case measure => simp [intOf]; omega
      | true =>
        rw [hrk] at hcr HS
        clear hrk
        by_cases hxb : b < x
        · have hd : decide (b < x) = true := decide_eq_true hxb
          go_wp2_with fail
          go_roundw
          case rel => exact ⟨k + 1, by omega, by go_num, by rw [HS.out, if_pos ⟨rfl, hxb⟩], DM.out⟩
          case measure => simp [intOf]; omega
        · have hd : decide (b < x) = false := decide_eq_false hxb
          go_wp2_with fail
          go_roundw
          case rel => exact ⟨k + 1, by omega, by go_num, by rw [HS.out, if_neg (by rintro ⟨_, h⟩; exact hxb h)], DM.out⟩
          case measure => simp [intOf]; omega
    · obtain rfl : k = 18 := by omega
      have A8 := Lib.hid (below_drewN A7.out m)
      have BT8 := Lib.hid (BT7.out.drewN m)
      have BR8 := Lib.hid (BR7.out.drewN m)
      have BV8 := Lib.hid (BV7.out.drewN m)
      have S8 : Hid (w.heap.size ≤ M5 ∧ M5 < M6 ∧ M6 < M7 ∧ M7 < (w7.drewN m).heap.size) := S7.out
      clear CT CR A7 BT7 BR7 BV7 S7 DR
      generalize w7.drewN m = w8 at *
      have HM := Lib.hid (most_best t r (fun i => (H0.out i).1) 18)
      have hbr := best_range t r 18
      by_cases hneg : best t r 18 < 0
      · rw [if_pos hneg] at HM
        rw [HM.out]
        have hp : pick t r = (t, -1) := by unfold pick; rw [if_pos hneg]
        rw [hp] at HV ⊢
        have hVT : V = T := by rw [← HV.out, HT.out]
        subst hVT
        have hE : ∀ w1, (binOp .eql 25 (.agg V.toArray) (.agg V.toArray)).run Try.prog w1 = .ok (.bool true) w1 := fun w1 => by
          have hf := fits_mk_ints (w := w1) (k := .i64) t (fun x hx => by
            obtain ⟨i, hi, rfl⟩ := List.getElem_of_mem hx
            have := H0.out i
            rw [List.getD_eq_getElem?_getD, List.getElem?_eq_getElem hi] at this
            exact wf_small (by simp at this; omega))
          rw [LN.out, HT.out] at hf
          exact (eql_same (w := w1) eqTurns (by omega) (by kernel_rfl) hf).1
        have HE := Lib.hid hE
        clear hp hE
        go_wp2_with fail
        refine (awake_calls _).mono ?_
        rintro e w9 ⟨rfl, hb⟩
        have A9 := Lib.hid (A8.out.trans (hb.mono A8.out.size))
        have BT9 := Lib.hid (BT8.out.below hb (by have := S8.out; omega))
        have BV9 := Lib.hid (BV8.out.below hb (by have := S8.out; omega))
        clear hb A8 BT8 BV8 BR8
        have hE := HE.out
        go_wp2_with (first | refine wpList_load_w rfl 25 (.tmp 5) rfl M5 0 rfl V _ (range_all BT9.out) Try.underlying25 rfl IT.out ?_ | refine wpList_load_w rfl 25 (.tmp 7) rfl M7 0 rfl V _ (range_all BV9.out) Try.underlying25 rfl IT.out ?_)
        go_ret
        exact ⟨rfl, A9.out⟩
      · obtain ⟨d, hd⟩ : ∃ d : Nat, best t r 18 = (d : Int) := ⟨(best t r 18).toNat, by omega⟩
        rw [if_neg hneg, hd, Int.toNat_natCast] at HM
        have hd18 : d < 18 := by omega
        have hP : pick t r = if t.getD d 0 ≤ 0 then pickOnce full r else pickOnce t r := by
          unfold pick
          rw [if_neg hneg, hd, Int.toNat_natCast]
          by_cases h0 : t.getD d 0 ≤ 0
          · rw [if_pos h0, if_pos h0, if_neg]
            intro hf
            have h1 := (best_spec full r 18).1 hf
            have h2 := ((best_spec t r 18).2 (by omega)).1
            rw [hd, Int.toNat_natCast] at h2
            rw [h1 d hd18] at h2; cases h2
          · rw [if_neg h0, if_neg h0]
        have HP := Lib.hid hP
        rw [HM.out]
        clear hP hbr hneg
        have hge : ¬ t.getD d 0 < 0 := by have := (H0.out d).1; omega
        have HD := Lib.hid hd
        clear hd
        have H3 := Lib.hid (H0.out d)
        obtain ⟨x, hx⟩ : ∃ x, t.getD d 0 = x := ⟨_, rfl⟩
        rw [hx] at HM hge H3 HP ⊢
        have HGX := Lib.hid hx
        clear hx
        have OTT := OT
        go_upto_region 13 with (first | refine wpList_load_mid rfl 25 (.tmp 5) rfl M5 0 rfl T _ (range_all BT8.out) Try.underlying25 rfl IT.out ?_ | refine wpList_store_mid rfl 25 (.tmp 11) (.tmp 54) rfl w8.heap.size 0 T.toArray rfl rfl (there_of_blk (Blk.new w8 _ 25) ?s1) ?s2 ?s3 ?_)
        case s1 => have := LT.out; simp; omega
        case s2 => simpa using IT.out
        case s3 => first | exact OTT.out | exact all_oneCell_toArray OTT.out
        obtain ⟨w9, hw9⟩ : ∃ w9, (w8.alloc (.cells #[.int .i64 0, .int .i64 0, .int .i64 0, .int .i64 0, .int .i64 0, .int .i64 0, .int .i64 0, .int .i64 0, .int .i64 0, .int .i64 0, .int .i64 0, .int .i64 0, .int .i64 0, .int .i64 0, .int .i64 0, .int .i64 0, .int .i64 0, .int .i64 0] 25)).setCells w8.heap.size 0 T = w9 := ⟨_, rfl⟩
        obtain ⟨n1, n2, n3⟩ := new_stored w8 _ 25 T (by rw [LT.out]; rfl) w9 hw9
        rw [hw9]
        have BU9 := Lib.hid n1
        have BR9 := Lib.hid (BR8.out.below n2 (by have := S8.out; omega))
        have BV9 := Lib.hid (BV8.out.below n2 S8.out.2.2.2)
        have A9 := Lib.hid (A8.out.trans (n2.mono A8.out.size))
        have S9 : Hid (w.heap.size ≤ M5 ∧ M5 < M6 ∧ M6 < M7 ∧ M7 < w8.heap.size ∧ w8.heap.size < w9.heap.size) := ⟨S8.out.1, S8.out.2.1, S8.out.2.2.1, S8.out.2.2.2, by omega⟩
        clear hw9 n1 n2 n3 A8 BT8 BR8 BV8 S8
        generalize w8.heap.size = M8 at *
        by_cases hx0 : x = 0
        · have HPf := HP.out
          rw [if_pos (by omega)] at HPf
          have hbf := best_range full r 18
          have hbf0 : 0 ≤ best full r 18 := by
            by_cases hf : best full r 18 < 0
            · exfalso
              have h1 := (best_spec full r 18).1 hf
              have h2 := ((best_spec t r 18).2 (by rw [HD.out]; omega)).1
              rw [HD.out, Int.toNat_natCast, h1 d hd18] at h2; cases h2
            · omega
          obtain ⟨e, he⟩ : ∃ e : Nat, best full r 18 = (e : Int) := ⟨(best full r 18).toNat, by omega⟩
          have he18 : e < 18 := by omega
          have hW := want_18 full r hbf0
          rw [he, Int.toNat_natCast, full_get e he18] at hW
          have HW := Lib.hid hW
          have HU := Lib.hid (show full.map (Value.int .i64) = filled T 18 from (filled_all T LT.out).symm)
          have LU := Lib.hid (show full.length = 18 by simp [full])
          have HX := Lib.hid (show full.getD e 0 = 3 from full_get e he18)
          have HPE : Hid (pick t r = (full.set e (full.getD e 0 - 1), (e : Int))) := by
            show pick t r = _
            rw [HPf]; unfold pickOnce; rw [he, Int.toNat_natCast]
          subst hx0
          clear HPf hbf hbf0 he hW HM HP hge HD HGX H3
          go_wp2_with fail
          have B0 : Hid (Blk w9 M8 (filled T 0) 25) := BU9.out
          clear BU9
          go_loopw [12] (fun i wr => ∃ k : Nat, k ≤ 18 ∧ i = .int .i64 k ∧ wr.heap.size = w9.heap.size ∧ Below w.heap.size w wr ∧ Blk wr M8 (filled T k) 25 ∧ Blk wr M6 R 27 ∧ Blk wr M7 V 25) (fun i _ => 18 - (intOf i).toNat)
          case atStart => exact ⟨0, by omega, rfl, rfl, A9.out, B0.out, BR9.out, BV9.out⟩
          case round =>
            obtain ⟨k, hk18, rfl, hs, hb, b1, b2, b3⟩ := hrel
            have X1 := Lib.hid hs
            have X2 := Lib.hid hb
            have X3 := Lib.hid b1
            have X4 := Lib.hid b2
            have X5 := Lib.hid b3
            clear hs hb b1 b2 b3
            by_cases hlk : k < 18
            · obtain ⟨v, hv⟩ : ∃ v, (filled T k)[k]? = some v := by rw [filled_get]; exact ⟨_, List.getElem?_eq_getElem (by rw [LT.out]; exact hlk)⟩
              have hck := X3.out.cellAt hv
              have hfk := X3.out.unfrozen k
              have hki : (k : Int) < 18 := by omega
              have hk0 : 0 ≤ (k : Int) := by omega
              have Y3 := Lib.hid (X3.out.set k (.int .i64 3))
              rw [filled_set T k (by rw [LT.out]; exact hlk)] at Y3
              have Y4 := Lib.hid (X4.out.other (show M8 ≠ M6 by have := S9.out; omega) (a := ⟨M8, k, none⟩) (.int .i64 3))
              have Y5 := Lib.hid (X5.out.other (show M8 ≠ M7 by have := S9.out; omega) (a := ⟨M8, k, none⟩) (.int .i64 3))
              have Y2 := Lib.hid (X2.out.setCell (p := ⟨M8, k, none⟩) (by have := S9.out; show w.heap.size ≤ M8; omega) (.int .i64 3))
              clear hv
              go_wp2_with fail
              go_roundw
              case rel => exact ⟨k + 1, by omega, by go_num, by simp [World.setCell, X1.out], Y2.out, Y3.out, Y4.out, Y5.out⟩
              case measure => simp [intOf]; omega
            · obtain rfl : k = 18 := by omega
              have S9' : Hid (w.heap.size ≤ M5 ∧ M5 < M6 ∧ M6 < M7 ∧ M7 < M8 ∧ M8 < wr.heap.size) := by rw [X1.out]; exact S9.out
              have BU9 : Hid (Blk wr M8 (full.map (Value.int .i64)) 25) := by rw [HU.out]; exact X3.out
              have HX1 : Hid (1 ≤ full.getD e 0 ∧ full.getD e 0 ≤ 3) := by rw [HX.out]; exact ⟨by omega, by omega⟩
              clear A9 BR9 BV9 S9 B0 HX
              have A9 := X2
              have BR9 := X4
              have BV9 := X5
              have S9 := S9'
              clear X1 X2 X3 X4 X5 S9' HU
              have HBU := Lib.hid full_bound
              generalize full = u at *
              generalize wr = w9 at *

              have hd0 : 0 ≤ (e : Int) := by omega
              have hdi : (e : Int) < 18 := by omega
              have hp2 : (pick t r).2 = (e : Int) := by rw [HPE.out]
              have HV2 := Lib.hid (show ((u.set e (u.getD e 0 - 1)).map (Value.int .i64)) = V by have := HV.out; rw [HPE.out] at this; exact this)
              rw [hp2]
              clear hp2 HPE
              have CU : Hid (∀ (i : Nat), i < 18 → w9.cell? ⟨M8, i, none⟩ = some (.int .i64 (u.getD i 0))) := fun i hi => by
                refine BU9.out.cellAt ?_
                have := LU.out
                rw [List.getElem?_map]
                simp [List.getD, List.getElem?_eq_getElem (show i < u.length by omega)]
              have CR : Hid (∀ (i : Nat), i < 18 → w9.cell? ⟨M6, i, none⟩ = some (.bool (r.getD i false))) := fun i hi => by
                refine BR9.out.cellAt ?_
                have := LQ.out
                rw [← HR.out, List.getElem?_map]
                simp [List.getD, List.getElem?_eq_getElem (show i < r.length by omega)]
              have HE : Hid (∀ w1, (binOp .eql 25 (.agg V.toArray) (.agg V.toArray)).run Try.prog w1 = .ok (.bool true) w1) := fun w1 => by
                have hf := fits_mk_ints (w := w1) (k := .i64) (u.set e (u.getD e 0 - 1)) (fun x hx => wf_small (by have := mem_bound HBU.out HX1.out x hx; omega))
                rw [List.length_set, LU.out, HV2.out] at hf
                exact (eql_same (w := w1) eqTurns (by omega) (by kernel_rfl) hf).1
              go_wp2_with fail
              go_loopw [13, 14] (fun b i wr => ∃ j : Nat, j ≤ 18 ∧ i = .int .i64 ((j : Int) - 1) ∧ b = .int .i64 (wantF u r 3 (18 - j)) ∧ wr = w9) (fun _ i _ => (intOf i + 1).toNat)
              case atStart => exact ⟨18, by omega, rfl, rfl, rfl⟩
              case round =>
                obtain ⟨j, hj, rfl, rfl, rfl⟩ := hrel
                cases j with
                | zero =>
                  have HW0 := HW.out
                  rw [show wantF u r 3 (18 - 0) = (e : Int) from HW0]
                  clear HW0
                  have hcd := CU.out e he18
                  have hfd := BU9.out.unfrozen e
                  have hyb := HX1.out
                  obtain ⟨y, hy⟩ : ∃ y, u.getD e 0 = y := ⟨_, rfl⟩
                  rw [hy] at hcd hyb HV2
                  have hy1 : 1 ≤ y := hyb.1
                  have hy3 : y ≤ 3 := hyb.2
                  clear hy hyb HX1 CU CR
                  have BU10 := Lib.hid (BU9.out.set e (.int .i64 (y - 1)))
                  rw [show (u.map (Value.int .i64)).set e (.int .i64 (y - 1)) = V by rw [← map_set_int]; exact HV2.out] at BU10
                  have BV10 := Lib.hid (BV9.out.other (show M8 ≠ M7 by have := S9.out; omega) (a := ⟨M8, e, none⟩) (.int .i64 (y - 1)))
                  have A10 := Lib.hid (A9.out.setCell (p := ⟨M8, e, none⟩) (by have := S9.out; show w.heap.size ≤ M8; omega) (.int .i64 (y - 1)))
                  have e10 : (wr.setCell ⟨M8, e, none⟩ (.int .i64 (y - 1))).heap.size = wr.heap.size := by simp [World.setCell]
                  have S10 : Hid (M7 < (wr.setCell ⟨M8, e, none⟩ (.int .i64 (y - 1))).heap.size ∧ M8 < (wr.setCell ⟨M8, e, none⟩ (.int .i64 (y - 1))).heap.size) := by rw [e10]; have := S9.out; exact ⟨Nat.lt_trans this.2.2.2.1 this.2.2.2.2, this.2.2.2.2⟩
                  clear e10
                  go_upto_region 26 with (fail)
                  generalize wr.setCell ⟨M8, e, none⟩ (.int .i64 (y - 1)) = w10 at *
                  go_wp2_with fail
                  refine (awake_calls _).mono ?_
                  rintro e w11 ⟨rfl, hb⟩
                  have A11 := Lib.hid (A10.out.trans (hb.mono A10.out.size))
                  have BV11 := Lib.hid (BV10.out.below hb S10.out.1)
                  have BU11 := Lib.hid (BU10.out.below hb S10.out.2)
                  have IV := Lib.hid (show (Try.prog.info? 25).map (·.size) = some V.length by rw [LV.out, size18I])
                  clear hb A10 BV10 BU10 BU9 BV9 BR9 A9
                  have hE := HE.out
                  go_wp2_with (first | refine wpList_load_w rfl 25 (.tmp 7) rfl M7 0 rfl V _ (range_all BV11.out) Try.underlying25 rfl IV.out ?_ | refine wpList_load_w rfl 25 (.tmp 11) rfl M8 0 rfl V _ (range_all BU11.out) Try.underlying25 rfl IV.out ?_)
                  go_ret
                  exact ⟨rfl, A11.out⟩
                | succ j =>
                  have e1 : ((j + 1 : Nat) : Int) - 1 = (j : Int) := by omega
                  have hji : (j : Int) < 18 := by omega
                  have hj0 : 0 ≤ (j : Int) := by omega
                  have hcu := CU.out j (by omega)
                  have hcr := CR.out j (by omega)
                  have HS := Lib.hid (wantF_step u r 3 j (by omega))
                  rw [e1]
                  clear CU CR
                  generalize wantF u r 3 (18 - (j + 1)) = b at *
                  generalize u.getD j 0 = y at *
                  cases hrk : r.getD j false with
                  | false =>
                    rw [hrk] at hcr HS
                    clear hrk
                    go_wp2_with fail
                    go_roundw
                    case rel => exact ⟨j, by omega, by go_num, by rw [HS.out, if_neg (by simp)], by trivial⟩
                    case measure => simp [intOf] <;> omega
                  | true =>
                    rw [hrk] at hcr HS
                    clear hrk
                    by_cases hym : y = 3
                    · have hd : decide (y = 3) = true := decide_eq_true hym
                      go_wp2_with fail
                      go_roundw
                      case rel => exact ⟨j, by omega, by go_num, by rw [HS.out, if_pos ⟨by trivial, hym⟩], by trivial⟩
                      case measure => simp [intOf] <;> omega
                    · have hd : decide (y = 3) = false := decide_eq_false hym
                      go_wp2_with fail
                      go_roundw
                      case rel => exact ⟨j, by omega, by go_num, by rw [HS.out, if_neg (by rintro ⟨_, h⟩; exact hym h)], by trivial⟩
                      case measure => simp [intOf] <;> omega
        · have HPf := HP.out
          rw [if_neg (by omega)] at HPf
          have hW := want_18 t r (by rw [HD.out]; omega)
          rw [HD.out, Int.toNat_natCast, HGX.out] at hW
          have HW := Lib.hid hW
          have HPE : Hid (pick t r = (t.set d (t.getD d 0 - 1), (d : Int))) := by
            show pick t r = _
            rw [HPf]; unfold pickOnce; rw [HD.out, Int.toNat_natCast]
          have HX1 : Hid (1 ≤ t.getD d 0 ∧ t.getD d 0 ≤ 3) := by rw [HGX.out]; exact ⟨by have := H3.out; omega, H3.out.2⟩
          have hxe : decide (x = 0) = false := decide_eq_false hx0
          clear HPf hW HP HM H3
          rw [← HT.out] at BU9
          have hd0 : 0 ≤ (d : Int) := by omega
          have hdi : (d : Int) < 18 := by omega
          have hp2 : (pick t r).2 = (d : Int) := by rw [HPE.out]
          have HV2 := Lib.hid (show ((t.set d (t.getD d 0 - 1)).map (Value.int .i64)) = V by have := HV.out; rw [HPE.out] at this; exact this)
          rw [hp2]
          clear hp2 HPE
          have CU : Hid (∀ (i : Nat), i < 18 → w9.cell? ⟨M8, i, none⟩ = some (.int .i64 (t.getD i 0))) := fun i hi => by
            refine BU9.out.cellAt ?_
            have := LN.out
            rw [List.getElem?_map]
            simp [List.getD, List.getElem?_eq_getElem (show i < t.length by omega)]
          have CR : Hid (∀ (i : Nat), i < 18 → w9.cell? ⟨M6, i, none⟩ = some (.bool (r.getD i false))) := fun i hi => by
            refine BR9.out.cellAt ?_
            have := LQ.out
            rw [← HR.out, List.getElem?_map]
            simp [List.getD, List.getElem?_eq_getElem (show i < r.length by omega)]
          have HE : Hid (∀ w1, (binOp .eql 25 (.agg V.toArray) (.agg V.toArray)).run Try.prog w1 = .ok (.bool true) w1) := fun w1 => by
            have hf := fits_mk_ints (w := w1) (k := .i64) (t.set d (t.getD d 0 - 1)) (fun x hx => wf_small (by have := mem_bound H0.out HX1.out x hx; omega))
            rw [List.length_set, LN.out, HV2.out] at hf
            exact (eql_same (w := w1) eqTurns (by omega) (by kernel_rfl) hf).1
          go_wp2_with fail
          go_loopw [13, 14] (fun b i wr => ∃ j : Nat, j ≤ 18 ∧ i = .int .i64 ((j : Int) - 1) ∧ b = .int .i64 (wantF t r x (18 - j)) ∧ wr = w9) (fun _ i _ => (intOf i + 1).toNat)
          case atStart => exact ⟨18, by omega, rfl, rfl, rfl⟩
          case round =>
            obtain ⟨j, hj, rfl, rfl, rfl⟩ := hrel
            cases j with
            | zero =>
              have HW0 := HW.out
              rw [show wantF t r x (18 - 0) = (d : Int) from HW0]
              clear HW0
              have hcd := CU.out d hd18
              have hfd := BU9.out.unfrozen d
              have hyb := HX1.out
              obtain ⟨y, hy⟩ : ∃ y, t.getD d 0 = y := ⟨_, rfl⟩
              rw [hy] at hcd hyb HV2
              have hy1 : 1 ≤ y := hyb.1
              have hy3 : y ≤ 3 := hyb.2
              clear hy hyb HX1 CU CR
              have BU10 := Lib.hid (BU9.out.set d (.int .i64 (y - 1)))
              rw [show (t.map (Value.int .i64)).set d (.int .i64 (y - 1)) = V by rw [← map_set_int]; exact HV2.out] at BU10
              have BV10 := Lib.hid (BV9.out.other (show M8 ≠ M7 by have := S9.out; omega) (a := ⟨M8, d, none⟩) (.int .i64 (y - 1)))
              have A10 := Lib.hid (A9.out.setCell (p := ⟨M8, d, none⟩) (by have := S9.out; show w.heap.size ≤ M8; omega) (.int .i64 (y - 1)))
              have e10 : (wr.setCell ⟨M8, d, none⟩ (.int .i64 (y - 1))).heap.size = wr.heap.size := by simp [World.setCell]
              have S10 : Hid (M7 < (wr.setCell ⟨M8, d, none⟩ (.int .i64 (y - 1))).heap.size ∧ M8 < (wr.setCell ⟨M8, d, none⟩ (.int .i64 (y - 1))).heap.size) := by rw [e10]; have := S9.out; exact ⟨Nat.lt_trans this.2.2.2.1 this.2.2.2.2, this.2.2.2.2⟩
              clear e10
              go_upto_region 26 with (fail)
              generalize wr.setCell ⟨M8, d, none⟩ (.int .i64 (y - 1)) = w10 at *
              go_wp2_with fail
              refine (awake_calls _).mono ?_
              rintro e w11 ⟨rfl, hb⟩
              have A11 := Lib.hid (A10.out.trans (hb.mono A10.out.size))
              have BV11 := Lib.hid (BV10.out.below hb S10.out.1)
              have BU11 := Lib.hid (BU10.out.below hb S10.out.2)
              have IV := Lib.hid (show (Try.prog.info? 25).map (·.size) = some V.length by rw [LV.out, size18I])
              clear hb A10 BV10 BU10 BU9 BV9 BR9 A9
              have hE := HE.out
              go_wp2_with (first | refine wpList_load_w rfl 25 (.tmp 7) rfl M7 0 rfl V _ (range_all BV11.out) Try.underlying25 rfl IV.out ?_ | refine wpList_load_w rfl 25 (.tmp 11) rfl M8 0 rfl V _ (range_all BU11.out) Try.underlying25 rfl IV.out ?_)
              go_ret
              exact ⟨rfl, A11.out⟩
            | succ j =>
              have e1 : ((j + 1 : Nat) : Int) - 1 = (j : Int) := by omega
              have hji : (j : Int) < 18 := by omega
              have hj0 : 0 ≤ (j : Int) := by omega
              have hcu := CU.out j (by omega)
              have hcr := CR.out j (by omega)
              have HS := Lib.hid (wantF_step t r x j (by omega))
              rw [e1]
              clear CU CR
              generalize wantF t r x (18 - (j + 1)) = b at *
              generalize t.getD j 0 = y at *
              cases hrk : r.getD j false with
              | false =>
                rw [hrk] at hcr HS
                clear hrk
                go_wp2_with fail
                go_roundw
                case rel => exact ⟨j, by omega, by go_num, by rw [HS.out, if_neg (by simp)], by trivial⟩
                case measure => simp [intOf] <;> omega
              | true =>
                rw [hrk] at hcr HS
                clear hrk
                by_cases hym : y = x
                · have hd : decide (y = x) = true := decide_eq_true hym
                  go_wp2_with fail
                  go_roundw
                  case rel => exact ⟨j, by omega, by go_num, by rw [HS.out, if_pos ⟨by trivial, hym⟩], by trivial⟩
                  case measure => simp [intOf] <;> omega
                · have hd : decide (y = x) = false := decide_eq_false hym
                  go_wp2_with fail
                  go_roundw
                  case rel => exact ⟨j, by omega, by go_num, by rw [HS.out, if_neg (by rintro ⟨_, h⟩; exact hym h)], by trivial⟩
                  case measure => simp [intOf] <;> omega
theorem picks_walk (c0 : List Value) (a1 : Int) (w : World) (f0 : Fits w (.rep 18 (.int .u8)) c0) (w1 : (Lit.int .u32 a1).wf = true) :
    Calls Try.prog 3 #[.agg c0.toArray, .int .u32 a1] w fun e w' => e = .returned (.bool true) ∧ Below w.heap.size w w' := by
  obtain ⟨l, hl, rfl, hx⟩ := fits_ints f0
  obtain ⟨m, rfl, hm⟩ := Bits.wf_u32 w1
  refine picks_calls l hl (fun x hx1 => ?_) _ (by omega) (by omega) w
  obtain ⟨n, rfl, hn⟩ := Bits.wf_u8 (hx x hx1)
  omega
end Go.Proofs.Yteimdlndcpmfoaa.Walks
