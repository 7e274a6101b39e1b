/- Walks through the functions of the statement, and the statement over them: each contract says what the call answers and that nothing else changes. -/
import Derived.Test.YteimdlndcpmfoaaProg
import Derived.Test.YteimdlndcpmfoaaBits
import Derived.Test.YteimdlndcpmfoaaHeap
import Derived.Test.YteimdlndcpmfoaaAid
import Derived.Lib.Hide
import Derived.Test.YteimdlndcpmfoaaArr
import Derived.Test.YteimdlndcpmfoaaWalkAwake
import Derived.WalkKit
import Derived.WalkSpells
import Derived.WalkLawsBesides
import Derived.Deep.QuietTactic
import Derived.BigQuiet
import Derived.Deep.DeepCutAuto
import Derived.Deep.CutBlock
import Derived.Lib.SlBytesConst
namespace Go.Proofs.Yteimdlndcpmfoaa.Walks
set_option linter.unusedVariables false
open Go.RowKit Go.Proofs.Yteimdlndcpmfoaa.Bits Go.Proofs.Yteimdlndcpmfoaa.Heap Go.Proofs.Yteimdlndcpmfoaa.Aid Go.Proofs.Yteimdlndcpmfoaa.Arr

def nearL (l : List Int) : List Int := l.map (· % 4)
theorem size18U : (Try.prog.info? 22).map (·.size) = some 18 := by kernel_rfl
set_option maxHeartbeats 1000000 in
theorem near_calls (l : List Int) (hl : l.length = 18) (hx : ∀ x ∈ l, 0 ≤ x ∧ x ≤ 255) (w : World) :
    Calls Try.prog 7 #[.agg (l.map (Value.int .u8)).toArray] w fun e w' => e = .returned (.agg ((nearL l).map (Value.int .i64)).toArray) ∧ Below w.heap.size w w' := by
  obtain ⟨U, hU⟩ : ∃ U, l.map (Value.int .u8) = U := ⟨_, rfl⟩
  rw [hU]
  go_enter Try.func7, Try.ntmps7
  go_wp2_with fail
  have h3b := blocks3 w U.toArray #[.int .i64 0, .int .i64 0, .int .i64 0, .int .i64 0, .int .i64 0, .int .i64 0, .int .i64 0, .int .i64 0, .int .i64 0, .int .i64 0, .int .i64 0, .int .i64 0, .int .i64 0, .int .i64 0, .int .i64 0, .int .i64 0, .int .i64 0, .int .i64 0] #[.int .i64 0, .int .i64 0, .int .i64 0, .int .i64 0, .int .i64 0, .int .i64 0, .int .i64 0, .int .i64 0, .int .i64 0, .int .i64 0, .int .i64 0, .int .i64 0, .int .i64 0, .int .i64 0, .int .i64 0, .int .i64 0, .int .i64 0, .int .i64 0] 22 25 25
  generalize ((w.alloc (.cells U.toArray 22)).alloc (.cells _ 25)).alloc _ = w3 at *
  obtain ⟨hB, hsz, bU, bR, bT⟩ := h3b w3 rfl
  obtain ⟨Z, hZ, bZ⟩ : ∃ Z, Z.length = 18 ∧ Blk w3 (w.heap.size + 1) Z 25 ∧ Blk w3 (w.heap.size + 1 + 1) Z 25 := ⟨_, rfl, bR, bT⟩
  obtain ⟨V, hV⟩ : ∃ V, (nearL l).map (Value.int .i64) = V := ⟨_, rfl⟩
  have LV : V.length = Z.length := by rw [← hV, hZ]; simp [nearL, hl]
  have GV : Hid (∀ k, k < 18 → ∃ x : Int, 0 ≤ x ∧ x ≤ 255 ∧ U[k]? = some (.int .u8 x) ∧ V[k]? = some (.int .i64 (x % 4))) := fun k hk => by
    have hkl : k < l.length := by omega
    have := hx l[k] (List.getElem_mem hkl)
    refine ⟨l[k], this.1, this.2, ?_, ?_⟩
    · rw [← hU, List.getElem?_map, List.getElem?_eq_getElem hkl]; rfl
    · rw [← hV, nearL, List.map_map, List.getElem?_map, List.getElem?_eq_getElem hkl]; rfl
  have OV : Hid (∀ v ∈ V, v.oneCell' = true) := by rw [← hV]; exact one_ints .i64 _
  have HV := Lib.hid hV
  have HLV := Lib.hid LV
  have HLZ := Lib.hid hZ
  have X1 := Lib.hid hsz
  have X2 := Lib.hid hB
  have X3 := Lib.hid bU
  have X4 := Lib.hid bZ.1
  have X5 : Hid (Blk w3 (w.heap.size + 1 + 1) (fillUp V Z 0) 25) := by rw [fillUp_zero]; exact bZ.2
  clear h3b hB hsz bU bR bT bZ hU hV LV hZ hl hx
  generalize hN : w.heap.size = N at *
  have HN := Lib.hid hN
  clear hN
  go_loopw [4] (fun i wr => ∃ k : Nat, k ≤ 18 ∧ i = .int .i64 k ∧ wr.heap.size = N + 3 ∧ Below N w wr ∧ Blk wr N U 22 ∧ Blk wr (N + 1) Z 25 ∧ Blk wr (N + 1 + 1) (fillUp V Z k) 25) (fun i _ => 18 - (intOf i).toNat)
  case atStart => exact ⟨0, by omega, rfl, X1.out, X2.out, X3.out, X4.out, X5.out⟩
  case round =>
    clear X1 X2 X3 X4 X5
    obtain ⟨k, hk, rfl, hs, hb, b1, b2, b3⟩ := hrel
    have X1 := Lib.hid hs
    have X2 := Lib.hid hb
    have X3 := Lib.hid b1
    have X4 := Lib.hid b2
    have X5 := Lib.hid b3
    clear hs hb b1 b2 b3
    by_cases hlt : k < 18
    · obtain ⟨x, hx0, hx1, hu, hv⟩ := GV.out k hlt
      obtain ⟨z, hz⟩ := fillUp_get HLV.out (k := k) (by rw [HLZ.out]; exact hlt)
      have c1 := X3.out.cellAt hu
      have c2 := X5.out.cellAt hz
      have f2 := X5.out.unfrozen k
      have hki : (k : Int) < 18 := by omega
      have hk0 : 0 ≤ (k : Int) := by omega
      have Y5 := Lib.hid (X5.out.set k (.int .i64 (x % 4)))
      rw [fillUp_set HLV.out (by rw [HLZ.out]; exact hlt) hv] at Y5
      have Y3 := Lib.hid (X3.out.other (show N + 1 + 1 ≠ N by omega) (a := ⟨N + 1 + 1, k, none⟩) (.int .i64 (x % 4)))
      have Y4 := Lib.hid (X4.out.other (show N + 1 + 1 ≠ N + 1 by omega) (a := ⟨N + 1 + 1, k, none⟩) (.int .i64 (x % 4)))
      have Y2 := Lib.hid (X2.out.setCell (p := ⟨N + 1 + 1, k, none⟩) (show N ≤ N + 1 + 1 by omega) (.int .i64 (x % 4)))
      clear hu hv hz
      go_wp2
      go_roundw
      case rel => exact ⟨k + 1, by omega, by go_num, by simp [World.setCell, X1.out], Y2.out, Y3.out, Y4.out, Y5.out⟩
      case measure => simp [intOf]; omega
    · obtain rfl : k = 18 := by omega
      have hf := fillUp_all HLV.out
      rw [HLZ.out] at hf
      rw [hf] at X5
      clear hf
      have IV := Lib.hid (show (Try.prog.info? 25).map (·.size) = some V.length by rw [HLV.out, HLZ.out, size18I])
      go_wp2_with (first | refine wpList_load_mid rfl 25 (.tmp 3) rfl (N + 1 + 1) 0 rfl V _ (range_all X5.out) Try.underlying25 rfl IV.out ?_ | refine wpList_store_mid rfl 25 (.tmp 2) (.tmp 16) rfl (N + 1) 0 V.toArray rfl rfl (there_of_blk X4.out ?s1) ?s2 ?s3 ?_)
      case s1 => have h1 := HLV.out; simp; omega
      case s2 => simpa using IV.out
      case s3 => first | exact OV.out | exact all_oneCell_toArray OV.out
      rw [HV.out]
      have hbz := blk_setAll X4.out (vs := V) HLV.out
      refine bodyPost_ret (v := .agg V.toArray) (results_cell_row Try.results7 _ _ (N + 1) _ V.toArray _ _ rfl hbz Try.underlying25 rfl (by simpa using IV.out)) rfl ⟨rfl, ?_⟩
      rw [HN.out]
      exact below_setCells X2.out (by omega) 0 _
/-- Which seats are, by bits. -/
def readyL (x : Int) : List Bool := (List.range 18).map fun k => (x / 2 ^ k % 2 == 1)
set_option maxHeartbeats 1000000 in
theorem ready_calls (x : Int) (hx0 : 0 ≤ x) (hx1 : x ≤ 4294967295) (w : World) :
    Calls Try.prog 8 #[.int .u32 x] w fun e w' => e = .returned (.agg ((readyL x).map Value.bool).toArray) ∧ Below w.heap.size w w' := by
  go_enter Try.func8, Try.ntmps8
  go_wp2_with fail
  have h3b := blocks2 w #[.bool false, .bool false, .bool false, .bool false, .bool false, .bool false, .bool false, .bool false, .bool false, .bool false, .bool false, .bool false, .bool false, .bool false, .bool false, .bool false, .bool false, .bool false] #[.bool false, .bool false, .bool false, .bool false, .bool false, .bool false, .bool false, .bool false, .bool false, .bool false, .bool false, .bool false, .bool false, .bool false, .bool false, .bool false, .bool false, .bool false] 27 27
  generalize (w.alloc (.cells _ 27)).alloc _ = w3 at *
  obtain ⟨hB, hsz, bR, bT⟩ := h3b w3 rfl
  obtain ⟨Z, hZ, bZ⟩ : ∃ Z, Z.length = 18 ∧ Blk w3 w.heap.size Z 27 ∧ Blk w3 (w.heap.size + 1) Z 27 := ⟨_, rfl, bR, bT⟩
  obtain ⟨V, hV⟩ : ∃ V, (readyL x).map Value.bool = V := ⟨_, rfl⟩
  have LV : V.length = Z.length := by rw [← hV, hZ]; simp [readyL]
  have GV : Hid (∀ k, k < 18 → V[k]? = some (.bool (x / 2 ^ k % 2 == 1))) := fun k hk => by
    rw [← hV, readyL, List.map_map, List.getElem?_map, List.getElem?_range hk]; rfl
  have OV : Hid (∀ v ∈ V, v.oneCell' = true) := by rw [← hV]; exact one_bools _
  have HV := Lib.hid hV
  have HLV := Lib.hid LV
  have HLZ := Lib.hid hZ
  have X1 := Lib.hid hsz
  have X2 := Lib.hid hB
  have X4 := Lib.hid bZ.1
  have X5 : Hid (Blk w3 (w.heap.size + 1) (fillUp V Z 0) 27) := by rw [fillUp_zero]; exact bZ.2
  clear h3b hB hsz bR bT bZ hV LV hZ
  generalize hN : w.heap.size = N at *
  have HN := Lib.hid hN
  clear hN
  go_loopw [4] (fun i wr => ∃ k : Nat, k ≤ 18 ∧ i = .int .i64 k ∧ wr.heap.size = N + 2 ∧ Below N w wr ∧ Blk wr N Z 27 ∧ Blk wr (N + 1) (fillUp V Z k) 27) (fun i _ => 18 - (intOf i).toNat)
  case atStart => exact ⟨0, by omega, rfl, X1.out, X2.out, X4.out, X5.out⟩
  case round =>
    clear X1 X2 X4 X5
    obtain ⟨k, hk, rfl, hs, hb, b2, b3⟩ := hrel
    have X1 := Lib.hid hs
    have X2 := Lib.hid hb
    have X4 := Lib.hid b2
    have X5 := Lib.hid b3
    clear hs hb b2 b3
    by_cases hlt : k < 18
    · have hv := GV.out k hlt
      obtain ⟨z, hz⟩ := fillUp_get HLV.out (k := k) (by rw [HLZ.out]; exact hlt)
      have c2 := X5.out.cellAt hz
      have f2 := X5.out.unfrozen k
      have hq0 : 0 ≤ x / 2 ^ k := Int.ediv_nonneg hx0 (Int.pow_nonneg (by omega))
      have hki : (k : Int) < 18 := by omega
      have hk0 : 0 ≤ (k : Int) := by omega
      have Y5 := Lib.hid (X5.out.set k (.bool (x / 2 ^ k % 2 == 1)))
      rw [fillUp_set HLV.out (by rw [HLZ.out]; exact hlt) hv] at Y5
      have Y4 := Lib.hid (X4.out.other (show N + 1 ≠ N by omega) (a := ⟨N + 1, k, none⟩) (.bool (x / 2 ^ k % 2 == 1)))
      have Y2 := Lib.hid (X2.out.setCell (p := ⟨N + 1, k, none⟩) (show N ≤ N + 1 by omega) (.bool (x / 2 ^ k % 2 == 1)))
      clear hv hz
      go_wp2
      go_roundw
      case rel => exact ⟨k + 1, by omega, by go_num, by simp [World.setCell, X1.out], Y2.out, Y4.out, Y5.out⟩
      case measure => simp [intOf]; omega
    · obtain rfl : k = 18 := by omega
      have hf := fillUp_all HLV.out
      rw [HLZ.out] at hf
      rw [hf] at X5
      clear hf
      have IV := Lib.hid (show (Try.prog.info? 27).map (·.size) = some V.length by rw [HLV.out, HLZ.out, size18B])
      go_wp2_with (first | refine wpList_load_mid rfl 27 (.tmp 3) rfl (N + 1) 0 rfl V _ (range_all X5.out) Try.underlying27 rfl IV.out ?_ | refine wpList_store_mid rfl 27 (.tmp 2) (.tmp 16) rfl N 0 V.toArray rfl rfl (there_of_blk X4.out ?s1) ?s2 ?s3 ?_)
      case s1 => have h1 := HLV.out; simp; omega
      case s2 => simpa using IV.out
      case s3 => first | exact OV.out | exact all_oneCell_toArray OV.out
      rw [HV.out]
      have hbz := blk_setAll X4.out (vs := V) HLV.out
      refine bodyPost_ret (v := .agg V.toArray) (results_cell_row Try.results8 _ _ N _ V.toArray _ _ rfl hbz Try.underlying27 rfl (by simpa using IV.out)) rfl ⟨rfl, ?_⟩
      rw [HN.out]
      exact below_setCells X2.out (by omega) 0 _
end Go.Proofs.Yteimdlndcpmfoaa.Walks
