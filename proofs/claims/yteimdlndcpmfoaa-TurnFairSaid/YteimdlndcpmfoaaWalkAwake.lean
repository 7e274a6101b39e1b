/- Walks through the functions of the statement, and the statement over them: each contract says what the call answers and that nothing else changes. -/
import Derived.Test.YteimdlndcpmfoaaProg
import Derived.Test.YteimdlndcpmfoaaBits
import Derived.Test.YteimdlndcpmfoaaHeap
import Derived.Test.YteimdlndcpmfoaaAid
import Derived.Lib.Hide
import Derived.Test.YteimdlndcpmfoaaArr
import Derived.Test.YteimdlndcpmfoaaWalkPick
import Derived.WalkKit
import Derived.WalkSpells
import Derived.WalkLawsBesides
import Derived.Deep.QuietTactic
import Derived.BigQuiet
import Derived.Deep.DeepCutAuto
import Derived.Deep.CutBlock
import Derived.Lib.SlBytesConst
namespace Go.Proofs.Yteimdlndcpmfoaa.Walks
set_option linter.unusedVariables false
open Go.RowKit Go.Proofs.Yteimdlndcpmfoaa.Bits Go.Proofs.Yteimdlndcpmfoaa.Heap Go.Proofs.Yteimdlndcpmfoaa.Aid Go.Proofs.Yteimdlndcpmfoaa.Arr

/-- The document's example, turn by turn. -/
def exT : Nat → List Int
  | 0 => List.replicate 18 0
  | k + 1 => (pick (exT k) [true, true, false, false, false, false, false, false, false, false, false, false, false, false, false, false, false, false]).1
def exR : List Bool := [true, true, false, false, false, false, false, false, false, false, false, false, false, false, false, false, false, false]
theorem exT_len (k : Nat) : (exT k).length = 18 := by
  induction k with
  | zero => rfl
  | succ k ih => exact pick_length _ _ ih
theorem pick_le (t : List Int) (r : List Bool) (h : ∀ i, t.getD i 0 ≤ 3) : ∀ i, (pick t r).1.getD i 0 ≤ 3 := by
  have hf : ∀ i, full.getD i 0 ≤ 3 := fun i => by
    by_cases hi : i < 18
    · rw [full_get i hi]; omega
    · rw [List.getD_eq_getElem?_getD, List.getElem?_eq_none (by simp [full]; omega)]; decide
  have hs : ∀ (t : List Int) (n : Nat), (∀ i, t.getD i 0 ≤ 3) → ∀ i, (t.set n (t.getD n 0 - 1)).getD i 0 ≤ 3 := fun t n h i => by
    have := h i
    have := h n
    rw [List.getD_eq_getElem?_getD] at *
    by_cases e : n = i
    · subst e
      by_cases hl : n < t.length
      · rw [List.getElem?_set_self hl]; simp only [Option.getD_some]; rw [List.getD_eq_getElem?_getD]; omega
      · rw [List.set_eq_of_length_le (by omega)]; omega
    · rw [List.getElem?_set_ne e]; omega
  unfold pick pickOnce
  split
  · exact h
  · split
    · split
      · exact hf
      · exact hs _ _ hf
    · exact hs _ _ h
theorem exT_le (k : Nat) : ∀ i, (exT k).getD i 0 ≤ 3 := by
  induction k with
  | zero => intro i; rw [List.getD_eq_getElem?_getD]; simp only [exT, List.getElem?_replicate]; split <;> simp
  | succ k ih => exact pick_le _ _ ih
def exN (k : Nat) : Int := if k % 2 = 0 then 0 else 1
theorem exN_ok (k : Nat) (h : k < 7) : (pick (exT k) exR).2 = exN k := by
  have : ∀ k : Fin 7, (pick (exT k.1) exR).2 = exN k.1 := by decide +kernel
  exact this ⟨k, h⟩
set_option maxHeartbeats 1000000 in
theorem awake_calls (w : World) :
    Calls Try.prog 10 #[] w fun e w' => e = .returned (.bool true) ∧ Below w.heap.size w w' := by
  go_enter Try.func10, Try.ntmps10
  go_wp2_with fail
  have h3b := blocks3 w #[.int .i64 0, .int .i64 0, .int .i64 0, .int .i64 0, .int .i64 0, .int .i64 0, .int .i64 0, .int .i64 0, .int .i64 0, .int .i64 0, .int .i64 0, .int .i64 0, .int .i64 0, .int .i64 0, .int .i64 0, .int .i64 0, .int .i64 0, .int .i64 0] #[.bool true, .bool true, .bool false, .bool false, .bool false, .bool false, .bool false, .bool false, .bool false, .bool false, .bool false, .bool false, .bool false, .bool false, .bool false, .bool false, .bool false, .bool false] #[.int .i64 0, .int .i64 1, .int .i64 0, .int .i64 1, .int .i64 0, .int .i64 1, .int .i64 0] 25 27 3
  obtain ⟨w3, hw3⟩ : ∃ w3, ((w.alloc (.cells #[.int .i64 0, .int .i64 0, .int .i64 0, .int .i64 0, .int .i64 0, .int .i64 0, .int .i64 0, .int .i64 0, .int .i64 0, .int .i64 0, .int .i64 0, .int .i64 0, .int .i64 0, .int .i64 0, .int .i64 0, .int .i64 0, .int .i64 0, .int .i64 0] 25)).alloc (.cells #[.bool true, .bool true, .bool false, .bool false, .bool false, .bool false, .bool false, .bool false, .bool false, .bool false, .bool false, .bool false, .bool false, .bool false, .bool false, .bool false, .bool false, .bool false] 27)).alloc (.cells #[.int .i64 0, .int .i64 1, .int .i64 0, .int .i64 1, .int .i64 0, .int .i64 1, .int .i64 0] 3) = w3 := ⟨_, rfl⟩
  rw [hw3]
  obtain ⟨hB, hsz, bT, bR, bS⟩ := h3b w3 hw3
  have HB := Lib.hid hB
  have HZ := Lib.hid hsz
  have BT : Hid (Blk w3 w.heap.size ((exT 0).map (Value.int .i64)) 25) := bT
  have BR : Hid (Blk w3 (w.heap.size + 1) (exR.map Value.bool) 27) := bR
  have BS : Hid (Blk w3 (w.heap.size + 1 + 1) ((List.range 7).map fun k => Value.int .i64 (exN k)) 3) := bS
  clear h3b hw3 hB hsz bT bR bS
  generalize hN : w.heap.size = N at *
  have HN := Lib.hid hN
  clear hN
  go_loopw [4] (fun i wr => ∃ k : Nat, k ≤ 7 ∧ i = .int .i64 k ∧ N + 3 ≤ wr.heap.size ∧ Below N w wr ∧ Blk wr N ((exT k).map (Value.int .i64)) 25 ∧ Blk wr (N + 1) (exR.map Value.bool) 27 ∧ Blk wr (N + 1 + 1) ((List.range 7).map fun k => Value.int .i64 (exN k)) 3) (fun i _ => 7 - (intOf i).toNat)
  case atStart => exact ⟨0, by omega, rfl, by rw [HZ.out]; omega, HB.out, BT.out, BR.out, BS.out⟩
  case round =>
    obtain ⟨k, hk, rfl, hs, hb, b1, b2, b3⟩ := hrel
    have X1 := Lib.hid hs
    have X2 := Lib.hid hb
    have X3 := Lib.hid b1
    have X4 := Lib.hid b2
    have X5 := Lib.hid b3
    clear hs hb b1 b2 b3 HB HZ BT BR BS
    by_cases hlt : k < 7
    · have C1 := Lib.hid (pick_calls (exT k) exR (exT_len k) rfl (exT_le k) wr)
      have HN7 := Lib.hid (exN_ok k hlt)
      have L1 := Lib.hid (show (Try.prog.info? 25).map (·.size) = some ((exT k).map (Value.int .i64)).length by rw [List.length_map, exT_len, size18I])
      have L2 := Lib.hid (show (Try.prog.info? 25).map (·.size) = some ((exT (k + 1)).map (Value.int .i64)).length by rw [List.length_map, exT_len, size18I])
      have L3 := Lib.hid (show (Try.prog.info? 27).map (·.size) = some (exR.map Value.bool).length from size18B)
      have O2 : Hid (∀ v ∈ (exT (k + 1)).map (Value.int .i64), v.oneCell' = true) := one_ints .i64 _
      have E2 : Hid ((pick (exT k) exR).1 = exT (k + 1)) := rfl
      have LE := Lib.hid (exT_len (k + 1))
      generalize hA : (exT k).map (Value.int .i64) = A at *
      generalize hR : exR.map Value.bool = R at *
      generalize hE : exT (k + 1) = E at *
      have HE := Lib.hid hE
      generalize hP : (pick (exT k) exR) = p at *
      clear hA hR hP hE
      go_wp2_with (first | refine wpList_load_mid rfl 25 (.tmp 1) rfl N 0 rfl A _ (range_all X3.out) Try.underlying25 rfl L1.out ?_ | refine wpList_load_mid rfl 27 (.tmp 2) rfl (N + 1) 0 rfl R _ (range_all X4.out) Try.underlying27 rfl L3.out ?_)
      refine C1.out.mono ?_
      rintro e w7 ⟨rfl, hb7⟩
      rw [E2.out, HN7.out]
      have B7 := Lib.hid hb7
      clear hb7
      obtain ⟨F, hF⟩ : ∃ F, E.map (Value.int .i64) = F := ⟨_, rfl⟩
      have LF := Lib.hid (show F.length = 18 by rw [← hF, List.length_map, LE.out])
      rw [hF] at L2 O2 ⊢
      have HF := Lib.hid hF
      clear hF
      go_upto_region 10 with (refine wpList_store_mid rfl 25 (.tmp 5) (.tmp 18) rfl w7.heap.size 0 F.toArray rfl rfl (there_of_blk (Blk.new w7 _ 25) ?s1) ?s2 ?s3 ?_)
      case s1 => have := LF.out; simp; omega
      case s2 => simpa using L2.out
      case s3 => first | exact O2.out | exact all_oneCell_toArray O2.out
      obtain ⟨w8, hw8⟩ : ∃ w8, (w7.alloc (.cells #[.int .i64 0, .int .i64 0, .int .i64 0, .int .i64 0, .int .i64 0, .int .i64 0, .int .i64 0, .int .i64 0, .int .i64 0, .int .i64 0, .int .i64 0, .int .i64 0, .int .i64 0, .int .i64 0, .int .i64 0, .int .i64 0, .int .i64 0, .int .i64 0] 25)).setCells w7.heap.size 0 F = w8 := ⟨_, rfl⟩
      obtain ⟨n1, n2, n3⟩ := new_stored w7 _ 25 F (by rw [LF.out]; rfl) w8 hw8
      rw [hw8]
      clear hw8
      have hsz8 : w7.heap.size < w8.heap.size := by omega
      have hle : wr.heap.size ≤ w7.heap.size := B7.out.size
      have G1 := Lib.hid n1
      have G2 := Lib.hid (B7.out.trans (n2.mono hle))
      have G3 := Lib.hid ((X2.out.trans ((B7.out.trans (n2.mono hle)).mono (by have := X1.out; omega))))
      have G4 := Lib.hid (X3.out.below G2.out (by have := X1.out; omega))
      have G5 := Lib.hid (X4.out.below G2.out (by have := X1.out; omega))
      have G6 := Lib.hid (X5.out.below G2.out (by have := X1.out; omega))
      have hNe : N ≠ w7.heap.size := by have := X1.out; omega
      have hsz9 : N + 3 ≤ w8.heap.size := by have := X1.out; omega
      have hw := G6.out.cellAt (i := k) (v := .int .i64 (exN k)) (by rw [List.getElem?_map, List.getElem?_range hlt]; rfl)
      have hne : (exN k != exN k) = false := by simp
      clear n1 n2 n3 hsz8 hle
      have hk0 : 0 ≤ (k : Int) := by omega
      have hk7 : (k : Int) < 7 := by omega
      generalize exN k = q at *
      generalize w7.heap.size = M at *
      go_wp2_with (first | refine wpList_load_mid rfl 25 (.tmp 5) rfl M 0 rfl F _ (range_all G1.out) Try.underlying25 rfl L2.out ?_ | refine wpList_store_mid rfl 25 (.tmp 1) (.tmp 26) rfl N 0 F.toArray rfl rfl (there_of_blk G4.out ?s1) ?s2 ?s3 ?_)
      case s1 => have h1 := LF.out; have h2 := L1.out; rw [size18I] at h2; injection h2 with h2; simp; omega
      case s2 => simpa using L2.out
      case s3 => first | exact O2.out | exact all_oneCell_toArray O2.out
      go_roundw
      case rel => exact ⟨k + 1, by omega, by go_num, by rw [size_setCells]; exact hsz9, below_setCells G3.out (Nat.le_refl _) 0 _, by rw [HE.out, HF.out]; exact blk_setAll G4.out (by have h1 := LF.out; have h2 := L1.out; rw [size18I] at h2; injection h2 with h2; omega), blk_setOther G5.out (by omega) 0 _, blk_setOther G6.out (by omega) 0 _⟩
      case measure => simp [intOf]; omega
    · go_wp2
      go_ret
      exact ⟨rfl, by rw [HN.out]; exact X2.out⟩
end Go.Proofs.Yteimdlndcpmfoaa.Walks
