/- Walks through the functions of the statement, and the statement over them: each contract says what the call answers and that nothing else changes. -/
import Derived.Test.YteimdlndcpmfoaaProg
import Derived.Test.YteimdlndcpmfoaaBits
import Derived.Test.YteimdlndcpmfoaaHeap
import Derived.Test.YteimdlndcpmfoaaAid
import Derived.Lib.Hide
import Derived.Test.YteimdlndcpmfoaaArr
import Derived.WalkKit
import Derived.WalkSpells
import Derived.WalkLawsBesides
import Derived.Deep.QuietTactic
import Derived.BigQuiet
import Derived.Deep.DeepCutAuto
import Derived.Deep.CutBlock
import Derived.Lib.SlBytesConst
namespace Go.Proofs.Yteimdlndcpmfoaa.Walks
set_option linter.unusedVariables false
open Go.RowKit Go.Proofs.Yteimdlndcpmfoaa.Bits Go.Proofs.Yteimdlndcpmfoaa.Heap Go.Proofs.Yteimdlndcpmfoaa.Aid Go.Proofs.Yteimdlndcpmfoaa.Arr

theorem ret_int {k : IntKind} {a b : Int} (h : a = b) : Ending.returned (.int k a) = .returned (.int k b) := by rw [h]
theorem ret_bool {a b : Bool} (h : a = b) : Ending.returned (.bool a) = .returned (.bool b) := by rw [h]
/-- Whose turn it is: behind k seats. -/
def best (t : List Int) (r : List Bool) : Nat → Int
  | 0 => -1
  | k + 1 => if r.getD k false = true ∧ (best t r k < 0 ∨ t.getD k 0 > t.getD (best t r k).toNat 0) then (k : Int) else best t r k
theorem best_succ (t : List Int) (r : List Bool) (k : Nat) : best t r (k + 1) = if r.getD k false = true ∧ (best t r k < 0 ∨ t.getD k 0 > t.getD (best t r k).toNat 0) then (k : Int) else best t r k := rfl
theorem best_range (t : List Int) (r : List Bool) (k : Nat) : -1 ≤ best t r k ∧ best t r k < k := by
  induction k with
  | zero => simp [best]
  | succ k ih =>
    simp only [best]
    split <;> omega
def pickOnce (t : List Int) (r : List Bool) : List Int × Int := (t.set (best t r 18).toNat (t.getD (best t r 18).toNat 0 - 1), best t r 18)
def full : List Int := List.replicate 18 3
def pick (t : List Int) (r : List Bool) : List Int × Int :=
  if best t r 18 < 0 then (t, -1) else if t.getD (best t r 18).toNat 0 ≤ 0 then (if best full r 18 < 0 then (full, -1) else pickOnce full r) else pickOnce t r
theorem full_get (i : Nat) (h : i < 18) : full.getD i 0 = 3 := by
  unfold full
  rw [List.getD_eq_getElem?_getD, List.getElem?_replicate, if_pos h]; rfl
theorem map_set_int (t : List Int) (n : Nat) (x : Int) : (t.set n x).map (Value.int .i64) = (t.map (Value.int .i64)).set n (.int .i64 x) := by rw [List.map_set]
/-- The first k are full. -/
def filled (T : List Value) (k : Nat) : List Value := List.replicate k (.int .i64 3) ++ T.drop k
theorem filled_len (T : List Value) (k : Nat) (hk : k ≤ T.length) : (filled T k).length = T.length := by simp [filled]; omega
theorem filled_get (T : List Value) (k : Nat) : (filled T k)[k]? = T[k]? := by
  unfold filled
  rw [List.getElem?_append_right (by simp), List.length_replicate, Nat.sub_self, List.getElem?_drop, Nat.add_zero]
theorem filled_set (T : List Value) (k : Nat) (hk : k < T.length) : (filled T k).set k (.int .i64 3) = filled T (k + 1) := by
  unfold filled
  rw [List.set_append_right _ _ (by simp), List.length_replicate, Nat.sub_self, List.drop_eq_getElem_cons hk, List.set_cons_zero, List.replicate_succ', List.append_assoc]
  rfl
theorem filled_all (T : List Value) (h : T.length = 18) : filled T 18 = full.map (Value.int .i64) := by
  unfold filled full
  rw [List.drop_of_length_le (by omega), List.append_nil, List.map_replicate]
theorem pick_length (t : List Int) (r : List Bool) (h : t.length = 18) : (pick t r).1.length = 18 := by
  unfold pick pickOnce
  split
  · exact h
  · split
    · split
      · simp [full]
      · simp [full]
    · simp [h]
theorem size18I : (Try.prog.info? 25).map (·.size) = some 18 := by kernel_rfl
theorem size18B : (Try.prog.info? 27).map (·.size) = some 18 := by kernel_rfl
theorem sizeB : (Try.prog.info? 4).map (·.size) = some 1 := by kernel_rfl
set_option maxHeartbeats 1000000 in
theorem pick_any (t : List Int) (r : List Bool) (ht : t.length = 18) (hr : r.length = 18) (h3 : ∀ i, t.getD i 0 ≤ 3) (w : World)
    (hrec : 0 ≤ best t r 18 → t.getD (best t r 18).toNat 0 ≤ 0 → ∀ w1, Calls Try.prog 9 #[.agg (full.map (Value.int .i64)).toArray, .agg (r.map Value.bool).toArray] w1 fun e w' => e = .returned (.tuple #[.agg ((pick t r).1.map (Value.int .i64)).toArray, .int .i64 (pick t r).2]) ∧ Below w1.heap.size w1 w') :
    Calls Try.prog 9 #[.agg (t.map (Value.int .i64)).toArray, .agg (r.map Value.bool).toArray] w fun e w' => e = .returned (.tuple #[.agg ((pick t r).1.map (Value.int .i64)).toArray, .int .i64 (pick t r).2]) ∧ Below w.heap.size w w' := by
  obtain ⟨T, hT⟩ : ∃ T, t.map (Value.int .i64) = T := ⟨_, rfl⟩
  obtain ⟨R, hR⟩ : ∃ R, r.map Value.bool = R := ⟨_, rfl⟩
  rw [hT, hR]
  have HT := Lib.hid hT
  have HR := Lib.hid hR
  have IT := Lib.hid (show (Try.prog.info? 25).map (·.size) = some T.length by rw [← hT, List.length_map, ht, size18I])
  have IR := Lib.hid (show (Try.prog.info? 27).map (·.size) = some R.length by rw [← hR, List.length_map, hr, size18B])
  clear hT hR
  go_enter Try.func9, Try.ntmps9
  go_upto_region 2 with (fail)
  have h3b := blocks3 w T.toArray R.toArray #[.int .i64 0, .int .i64 0, .int .i64 0, .int .i64 0, .int .i64 0, .int .i64 0, .int .i64 0, .int .i64 0, .int .i64 0, .int .i64 0, .int .i64 0, .int .i64 0, .int .i64 0, .int .i64 0, .int .i64 0, .int .i64 0, .int .i64 0, .int .i64 0] 25 27 25
  generalize ((w.alloc (.cells T.toArray 25)).alloc (.cells R.toArray 27)).alloc _ = w3 at *
  obtain ⟨hB, hsz, bT, bR, bZ⟩ := h3b w3 rfl
  obtain ⟨Z, hZ, bZ⟩ : ∃ Z, Z.length = 18 ∧ Blk w3 (w.heap.size + 1 + 1) Z 25 := ⟨_, rfl, bZ⟩
  have LZ := Lib.hid hZ
  clear hZ
  have HB := Lib.hid hB
  have HZ := Lib.hid hsz
  have BT := Lib.hid bT
  have BR := Lib.hid bR
  have BZ := Lib.hid bZ
  clear h3b hB hsz bT bR bZ
  generalize hN : w.heap.size = N at *
  have HN := Lib.hid hN
  clear hN
  go_wp2_with (refine wpList_load_mid rfl 27 (.tmp 3) rfl (N + 1) 0 rfl R _ (range_all BR.out) Try.underlying27 rfl IR.out ?_)
  have CT : Hid (∀ (m i : Nat), i < 18 → (w3.drewN m).cell? ⟨N, i, none⟩ = some (.int .i64 (t.getD i 0))) := fun m i hi => by
    refine BT.out.cellAt ?_
    rw [← HT.out, List.getElem?_map]
    simp [List.getD, List.getElem?_eq_getElem (show i < t.length by omega)]
  have CR : Hid (∀ (i : Nat) (w : World), i < 18 → (Instr.index 27 (.agg R.toArray) (.int .i64 (i : Int))).run Try.prog w = .ok (.bool (r.getD i false)) w) := fun i w hi => by
    refine run_index_one w Try.underlying27 Try.underlying4 rfl sizeB hi ?_
    rw [← HR.out, List.getElem?_map]
    simp [List.getD, List.getElem?_eq_getElem (show i < r.length by omega)]
  have DR : Hid (∀ m n, ∃ q, (w3.drewN m).drewN n = w3.drewN q) := fun m n => ⟨m + n, by rw [World.drewN_drewN]⟩
  have HT18 := Lib.hid ht
  have HREC := Lib.hid hrec
  have H3 := Lib.hid h3
  clear ht hr hrec h3
  go_loopw [6, 11] (fun b i wr => ∃ k : Nat, k ≤ 18 ∧ i = .int .i64 k ∧ b = .int .i64 (best t r k) ∧ ∃ m, wr = w3.drewN m) (fun _ i _ => 18 - (intOf i).toNat)
  case atStart => exact ⟨0, by omega, rfl, rfl, 0, rfl⟩
  case round =>
    obtain ⟨k, hk, rfl, rfl, m, rfl⟩ := hrel
    have hbr := best_range t r k
    by_cases hlt : k < 18
    · have hki : (k : Int) < 18 := by omega
      have hk0 : 0 ≤ (k : Int) := by omega
      have hix := fun w => CR.out k w hlt
      have hck := CT.out m k hlt
      have DM := Lib.hid (DR.out m)
      have HS := Lib.hid (best_succ t r k)
      generalize hb : best t r k = b at *
      clear hb
      cases hrk : r.getD k false with
      | false =>
        rw [hrk] at hix HS
        clear hrk hck
        generalize w3.drewN m = w4 at *
        go_wp2
        go_quiet (fail)
        go_wp2
        go_roundw
        case rel => exact ⟨k + 1, by omega, by go_num, by rw [HS.out, if_neg (by simp)], DM.out _⟩
        case measure => simp [intOf]; omega
      | true =>
        rw [hrk] at hix HS
        clear hrk
        by_cases hb0 : b < 0
        · have hd : decide (b < 0) = true := decide_eq_true hb0
          clear hck
          generalize w3.drewN m = w4 at *
          go_wp2
          go_quiet (fail)
          go_wp2
          go_roundw
          case rel => exact ⟨k + 1, by omega, by go_num, by rw [HS.out, if_pos ⟨trivial, Or.inl hb0⟩], DM.out _⟩
          case measure => simp [intOf]; omega
        · have hd : decide (b < 0) = false := decide_eq_false hb0
          obtain ⟨n, rfl⟩ := Int.eq_ofNat_of_zero_le (show 0 ≤ b by omega)
          have hn : (n : Int) < 18 := by omega
          have hn0 : 0 ≤ (n : Int) := by omega
          have hcn := CT.out m n (by omega)
          rw [Int.toNat_natCast] at HS
          generalize t.getD k 0 = x at *
          generalize t.getD n 0 = y at *
          generalize w3.drewN m = w4 at *
          by_cases hxy : y < x
          · have hd2 : decide (y < x) = true := decide_eq_true hxy
            go_wp2
            go_quiet (fail)
            go_wp2
            go_roundw
            case rel => exact ⟨k + 1, by omega, by go_num, by rw [HS.out, if_pos ⟨trivial, Or.inr hxy⟩], DM.out _⟩
            case measure => simp [intOf]; omega
          · have hd2 : decide (y < x) = false := decide_eq_false hxy
            go_wp2
            go_quiet (fail)
            go_wp2
            go_roundw
            case rel => exact ⟨k + 1, by omega, by go_num, by rw [HS.out, if_neg (by rintro ⟨_, h | h⟩ <;> omega)], DM.out _⟩
            case measure => simp [intOf]; omega
    · obtain rfl : k = 18 := by omega
      have DM := Lib.hid (DR.out m)
      generalize hw4 : w3.drewN m = w4 at *
      have B4 : Hid (Below N w3 w4 ∧ w4.heap.size = w3.heap.size) := ⟨by rw [← hw4]; exact below_drewN (Below.refl _ _) m, by rw [← hw4]; rfl⟩
      have BT4 : Hid (Blk w4 N T 25) := by rw [← hw4]; exact BT.out.drewN m
      have BR4 : Hid (Blk w4 (N + 1) R 27) := by rw [← hw4]; exact BR.out.drewN m
      have BZ4 : Hid (Blk w4 (N + 1 + 1) Z 25) := by rw [← hw4]; exact BZ.out.drewN m
      clear hw4 CT CR
      generalize hb : best t r 18 = b at *
      have HBE := Lib.hid hb
      clear hb
      have OT : Hid ((T.toArray.all fun x => x.oneCell') = true) := by rw [← HT.out]; exact all_oneCell_toArray (one_ints .i64 t)
      have LT := Lib.hid (show T.length = 18 by rw [← HT.out, List.length_map, HT18.out])
      by_cases hb0 : b < 0
      · have HP := Lib.hid (show pick t r = (t, -1) by unfold pick; rw [HBE.out, if_pos hb0])
        go_wp2_with (first | refine wpList_load_mid rfl 25 (.tmp 2) rfl N 0 rfl T _ (range_all BT4.out) Try.underlying25 rfl IT.out ?_ | refine wpList_store_mid rfl 25 (.tmp 4) (.tmp 33) rfl (N + 1 + 1) 0 T.toArray rfl rfl (there_of_blk BZ4.out ?s1) ?s2 ?s3 ?_)
        case s1 => have := LZ.out; have := LT.out; simp; omega
        case s2 => simpa using IT.out
        case s3 => exact OT.out
        rw [HP.out, HT.out]
        have hbz := blk_setAll BZ4.out (vs := T) (by rw [LT.out, LZ.out])
        refine bodyPost_ret (v := .tuple #[.agg T.toArray, .int .i64 (-1)]) (results_ct Try.results9 _ _ (N + 1 + 1) T _ rfl (range_all hbz) Try.underlying25 rfl IT.out) rfl ⟨rfl, ?_⟩
        rw [HN.out]
        exact below_setCells (HB.out.trans B4.out.1) (by omega) 0 _
      · obtain ⟨n, rfl⟩ := Int.eq_ofNat_of_zero_le (show 0 ≤ b by omega)
        have hn : (n : Int) < 18 := by omega
        have hn0 : 0 ≤ (n : Int) := by omega
        have hcn : w4.cell? ⟨N, n, none⟩ = some (.int .i64 (t.getD n 0)) := by
          have h18 := HT18.out
          refine BT4.out.cellAt ?_
          rw [← HT.out, List.getElem?_map]
          simp [List.getD, List.getElem?_eq_getElem (show n < t.length by omega)]
        have hfn := BT4.out.unfrozen n
        by_cases hpos : t.getD n 0 ≤ 0
        · have hrec := HREC.out (by omega) (by rw [Int.toNat_natCast]; exact hpos)
          rw [← filled_all T LT.out, HR.out] at hrec
          have HP18 := Lib.hid (pick_length t r HT18.out)
          have HR2 := Lib.hid hrec
          have CK : Hid (∀ k, k < 18 → ∃ v, (filled T k)[k]? = some v) := fun k hk => by rw [filled_get]; exact ⟨_, List.getElem?_eq_getElem (by rw [LT.out]; exact hk)⟩
          have OP : Hid (∀ v ∈ (pick t r).1.map (Value.int .i64), v.oneCell' = true) := one_ints .i64 _
          clear hrec HREC H3
          generalize hp1 : (pick t r).1 = p1 at *
          generalize hp2 : (pick t r).2 = p2 at *
          have HP1 := Lib.hid hp1
          have HP2 := Lib.hid hp2
          clear hp1 hp2
          generalize t.getD n 0 = x at *
          go_wp2_with fail
          have B0 : Hid (Blk w4 N (filled T 0) 25) := BT4.out
          clear hcn hfn
          go_loopw [38] (fun i wr => ∃ k : Nat, k ≤ 18 ∧ i = .int .i64 k ∧ wr.heap.size = N + 3 ∧ Below N w3 wr ∧ Blk wr N (filled T k) 25 ∧ Blk wr (N + 1) R 27 ∧ Blk wr (N + 1 + 1) Z 25) (fun i _ => 18 - (intOf i).toNat)
          case atStart => exact ⟨0, by omega, rfl, by rw [B4.out.2, HZ.out], B4.out.1, B0.out, BR4.out, BZ4.out⟩
          case round =>
            obtain ⟨k, hk18, rfl, hs, hb, b1, b2, b3⟩ := hrel
            have X1 := Lib.hid hs
            have X2 := Lib.hid hb
            have X3 := Lib.hid b1
            have X4 := Lib.hid b2
            have X5 := Lib.hid b3
            clear hs hb b1 b2 b3
            by_cases hlk : k < 18
            · obtain ⟨v, hv⟩ := CK.out k hlk
              have hck := X3.out.cellAt hv
              have hfk := X3.out.unfrozen k
              have hki : (k : Int) < 18 := by omega
              have hk0 : 0 ≤ (k : Int) := by omega
              have Y3 := Lib.hid (X3.out.set k (.int .i64 3))
              rw [filled_set T k (by rw [LT.out]; exact hlk)] at Y3
              have Y4 := Lib.hid (X4.out.other (show N ≠ N + 1 by omega) (a := ⟨N, k, none⟩) (.int .i64 3))
              have Y5 := Lib.hid (X5.out.other (show N ≠ N + 1 + 1 by omega) (a := ⟨N, k, none⟩) (.int .i64 3))
              have Y2 := Lib.hid (X2.out.setCell (p := ⟨N, k, none⟩) (Nat.le_refl _) (.int .i64 3))
              clear hv
              go_wp2
              go_roundw
              case rel => exact ⟨k + 1, by omega, by go_num, by simp [World.setCell, X1.out], Y2.out, Y3.out, Y4.out, Y5.out⟩
              case measure => simp [intOf]; omega
            · obtain rfl : k = 18 := by omega
              generalize hF : filled T 18 = F at *
              have IF := Lib.hid (show (Try.prog.info? 25).map (·.size) = some F.length by rw [← hF, filled_len T 18 (by rw [LT.out]; omega), LT.out, size18I])
              clear hF
              go_wp2_with (first | refine wpList_load_mid rfl 25 (.tmp 2) rfl N 0 rfl F _ (range_all X3.out) Try.underlying25 rfl IF.out ?_ | refine wpList_load_mid rfl 27 (.tmp 3) rfl (N + 1) 0 rfl R _ (range_all X4.out) Try.underlying27 rfl IR.out ?_)
              refine (HR2.out _).mono ?_
              rintro e w7 ⟨rfl, hb7⟩
              rw [X1.out] at hb7
              have BZ7 := Lib.hid (X5.out.below hb7 (by omega))
              have B7 := Lib.hid (X2.out.trans (hb7.mono (by omega)))
              clear hb7
              obtain ⟨Q, hQ⟩ : ∃ Q, p1.map (Value.int .i64) = Q := ⟨_, rfl⟩
              rw [hQ]
              have OQ : Hid (∀ v ∈ Q, v.oneCell' = true) := by rw [← hQ]; exact OP.out
              have LQ := Lib.hid (show Q.length = 18 by rw [← hQ, List.length_map, HP18.out])
              have IQ := Lib.hid (show (Try.prog.info? 25).map (·.size) = some Q.length by rw [LQ.out, size18I])
              have HQ := Lib.hid hQ
              clear hQ
              go_wp2_with (refine wpList_store_mid rfl 25 (.tmp 4) (.tmp 47) rfl (N + 1 + 1) 0 Q.toArray rfl rfl (there_of_blk BZ7.out ?s1) ?s2 ?s3 ?_)
              case s1 => have h1 := LZ.out; have h2 := LQ.out; simp; omega
              case s2 => simpa using IQ.out
              case s3 => first | exact OQ.out | exact all_oneCell_toArray OQ.out
              have hbz := blk_setAll BZ7.out (vs := Q) (by rw [LQ.out, LZ.out])
              refine bodyPost_ret (v := .tuple #[.agg Q.toArray, .int .i64 p2]) (results_ct Try.results9 _ _ (N + 1 + 1) Q _ rfl (range_all hbz) Try.underlying25 rfl IQ.out) rfl ⟨by rw [HP1.out, HP2.out, HQ.out], ?_⟩
              rw [HN.out]
              exact below_setCells (HB.out.trans B7.out) (by omega) 0 _
        · have HP := Lib.hid (show pick t r = (t.set n (t.getD n 0 - 1), (n : Int)) by
            unfold pick pickOnce; rw [HBE.out, if_neg (by omega), if_neg (by rw [Int.toNat_natCast]; exact hpos), Int.toNat_natCast])
          have hx2 := H3.out n
          clear H3
          generalize t.getD n 0 = x at *
          have hx1 : 0 < x := by omega
          have HS2 := Lib.hid (show (t.set n (x - 1)).map (Value.int .i64) = T.set n (.int .i64 (x - 1)) by rw [map_set_int, HT.out])
          have BT5 : Hid (Blk (w4.setCell ⟨N, n, none⟩ (.int .i64 (x - 1))) N (T.set n (.int .i64 (x - 1))) 25) := BT4.out.set n _
          have BZ5 : Hid (Blk (w4.setCell ⟨N, n, none⟩ (.int .i64 (x - 1))) (N + 1 + 1) Z 25) := BZ4.out.other (show N ≠ N + 1 + 1 by omega) _
          have IT5 : Hid ((Try.prog.info? 25).map (·.size) = some (T.set n (.int .i64 (x - 1))).length) := by rw [List.length_set]; exact IT.out
          have OT5 : Hid (∀ v ∈ T.set n (.int .i64 (x - 1)), v.oneCell' = true) := by rw [← HS2.out]; exact one_ints .i64 _
          have B5 : Hid (Below N w3 (w4.setCell ⟨N, n, none⟩ (.int .i64 (x - 1)))) := B4.out.1.setCell (Nat.le_refl _) _
          go_upto_region 18 with (fail)
          generalize w4.setCell ⟨N, n, none⟩ (.int .i64 (x - 1)) = w5 at *
          generalize T.set n (.int .i64 (x - 1)) = T5 at *
          go_wp2_with (first | refine wpList_load_mid rfl 25 (.tmp 2) rfl N 0 rfl T5 _ (range_all BT5.out) Try.underlying25 rfl IT5.out ?_ | refine wpList_store_mid rfl 25 (.tmp 4) (.tmp 54) rfl (N + 1 + 1) 0 T5.toArray rfl rfl (there_of_blk BZ5.out ?s1) ?s2 ?s3 ?_)
          case s1 => have h1 := LZ.out; have h2 := IT5.out; rw [size18I] at h2; injection h2 with h2; simp; omega
          case s2 => simpa using IT5.out
          case s3 => first | exact OT5.out | exact all_oneCell_toArray OT5.out
          rw [HP.out, HS2.out]
          have hbz := blk_setAll BZ5.out (vs := T5) (by have h2 := IT5.out; rw [size18I] at h2; injection h2 with h2; rw [← h2, LZ.out])
          refine bodyPost_ret (v := .tuple #[.agg T5.toArray, .int .i64 (n : Int)]) (results_ct Try.results9 _ _ (N + 1 + 1) T5 _ rfl (range_all hbz) Try.underlying25 rfl IT5.out) rfl ⟨rfl, ?_⟩
          rw [HN.out]
          exact below_setCells (HB.out.trans B5.out) (by omega) 0 _
theorem pick_calls (t : List Int) (r : List Bool) (ht : t.length = 18) (hr : r.length = 18) (h3 : ∀ i, t.getD i 0 ≤ 3) (w : World) :
    Calls Try.prog 9 #[.agg (t.map (Value.int .i64)).toArray, .agg (r.map Value.bool).toArray] w fun e w' => e = .returned (.tuple #[.agg ((pick t r).1.map (Value.int .i64)).toArray, .int .i64 (pick t r).2]) ∧ Below w.heap.size w w' := by
  refine pick_any t r ht hr h3 w (fun hb ht0 w1 => ?_)
  have hf3 : ∀ i, full.getD i 0 ≤ 3 := fun i => by
    by_cases hi : i < 18
    · rw [full_get i hi]; omega
    · rw [List.getD_eq_getElem?_getD, List.getElem?_eq_none (by simp [full]; omega)]; decide
  have hbr := best_range full r 18
  have := pick_any full r (by simp [full]) hr hf3 w1 (fun h0 h1 => by
    rw [full_get _ (by omega)] at h1; omega)
  have e : pick full r = pick t r := by
    unfold pick
    rw [if_neg (show ¬ best t r 18 < 0 by omega), if_pos ht0]
    by_cases hb0 : best full r 18 < 0
    · rw [if_pos hb0, if_pos hb0]
    · rw [if_neg hb0, if_neg hb0, if_neg (by rw [full_get _ (by omega)]; omega)]
  rw [e] at this
  exact this
end Go.Proofs.Yteimdlndcpmfoaa.Walks
