/- Walks through the functions of the statement, and the statement over them: each contract says what the call answers and that nothing else changes. -/
import Derived.Test.YtlbphkeiapnigaaProg
import Derived.Test.YtlbphkeiapnigaaBits
import Derived.Test.YtlbphkeiapnigaaHeap
import Derived.Test.YtlbphkeiapnigaaAid
import Derived.Lib.Hide
import Derived.Test.YtlbphkeiapnigaaArr
import Derived.Test.YtlbphkeiapnigaaEql
import Derived.Test.YtlbphkeiapnigaaWalkBook3
import Derived.WalkKit
import Derived.WalkSpells
import Derived.WalkLawsBesides
import Derived.Deep.QuietTactic
import Derived.BigQuiet
import Derived.Deep.RegionHeld3
import Derived.Deep.DeepCutAuto
import Derived.Deep.CutBlock
import Derived.Lib.SlBytesConst
import Derived.StillTailTactics
import Derived.IntWalk
namespace Go.Proofs.Ytlbphkeiapnigaa.Walks
set_option linter.unusedVariables false
set_option linter.unusedSimpArgs false
open Go.RowKit Go.Proofs.Ytlbphkeiapnigaa.Bits Go.Proofs.Ytlbphkeiapnigaa.Heap Go.Proofs.Ytlbphkeiapnigaa.Aid Go.Proofs.Ytlbphkeiapnigaa.Arr Go.Proofs.Ytlbphkeiapnigaa.Eql

theorem fnd_eq {p : Le → Bool} {b : List Le} {k : Nat} {x : Le} (hx : b[k]? = some x) (hp : p x = true) (hl : ∀ (i : Nat) (y : Le), i < k → b[i]? = some y → p y = false) : fnd p b = k := by
  have hk : k < b.length := by
    rcases Nat.lt_or_ge k b.length with h | h
    · exact h
    · rw [List.getElem?_eq_none h] at hx; cases hx
  rcases Nat.lt_trichotomy (fnd p b) k with h | h | h
  · have hy : b[fnd p b]? = some b[fnd p b] := List.getElem?_eq_getElem (by omega)
    have h1 := (fnd_spec p b _ _ hy).2 rfl
    rw [hl _ _ h hy] at h1; cases h1
  · exact h
  · have h1 := (fnd_spec p b k x hx).1 h
    rw [hp] at h1; cases h1
theorem fnd_none {p : Le → Bool} {b : List Le} (h : ∀ (i : Nat) (y : Le), b[i]? = some y → p y = false) : fnd p b = b.length := by
  have hl := fnd_le p b
  rcases Nat.lt_or_ge (fnd p b) b.length with h1 | h1
  · have hy : b[fnd p b]? = some b[fnd p b] := List.getElem?_eq_getElem h1
    have h2 := (fnd_spec p b _ _ hy).2 rfl
    rw [h _ _ hy] at h2; cases h2
  · omega
/-- The first k are lent. -/
def fullB (x : Le) (k : Nat) : List Le := List.replicate k x ++ List.replicate (16 - k) zeroLe
theorem fullB_len (x : Le) {k : Nat} (hk : k ≤ 16) : (fullB x k).length = 16 := by simp [fullB]; omega
theorem fullB_lo (x : Le) {k i : Nat} (hi : i < k) : (fullB x k)[i]? = some x := by
  unfold fullB
  rw [List.getElem?_append_left (by simpa using hi), List.getElem?_replicate, if_pos hi]
theorem fullB_hi (x : Le) {k i : Nat} (hi : k ≤ i) (h16 : i < 16) : (fullB x k)[i]? = some zeroLe := by
  unfold fullB
  rw [List.getElem?_append_right (by simpa using hi), List.length_replicate, List.getElem?_replicate, if_pos (by omega)]
theorem fullB_set (x : Le) {k : Nat} (hk : k < 16) : (fullB x k).set k x = fullB x (k + 1) := by
  apply List.ext_getElem?
  intro i
  by_cases h : i < 16
  · by_cases e : k = i
    · subst e
      rw [List.getElem?_set_self (by rw [fullB_len x (by omega)]; exact hk), fullB_lo x (by omega)]
    · rw [List.getElem?_set_ne e]
      by_cases h1 : i < k
      · rw [fullB_lo x h1, fullB_lo x (by omega)]
      · rw [fullB_hi x (by omega) h, fullB_hi x (by omega) h]
  · rw [List.getElem?_eq_none (by rw [List.length_set, fullB_len x (by omega)]; omega), List.getElem?_eq_none (by rw [fullB_len x (by omega)]; omega)]
theorem full_offer {v p q : Int} (hv : 0 ≤ v ∧ v < 6) (hp : 0 ≤ p ∧ p < 32) (hq : 0 ≤ q ∧ q < 6) (hne : v ≠ q) {k : Nat} (hk : k < 16) :
    offerL (fullB ⟨true, v, p, q, true, -1⟩ k) v p q true = (fullB ⟨true, v, p, q, true, -1⟩ (k + 1), (k : Int), 0) := by
  have h1 : fnd (fun x => !x.on) (fullB ⟨true, v, p, q, true, -1⟩ k) = k := fnd_eq (fullB_hi _ (Nat.le_refl _) hk) rfl (fun i y hi hy => by
    rw [fullB_lo _ hi] at hy
    cases hy; rfl)
  unfold offerL
  rw [h1, if_neg (by unfold rightL; simp; omega), if_pos hk, fullB_set _ hk]
theorem full_no {v p q p' : Int} (hv : 0 ≤ v ∧ v < 6) (hp : 0 ≤ p' ∧ p' < 32) (hq : 0 ≤ q ∧ q < 6) (hne : v ≠ q) (wr : Bool) :
    (offerL (fullB ⟨true, v, p, q, true, -1⟩ 16) v p' q wr).2.2 = 3 := by
  have h1 : fnd (fun x => !x.on) (fullB ⟨true, v, p, q, true, -1⟩ 16) = 16 := by
    rw [fnd_none, fullB_len _ (Nat.le_refl _)]
    intro i y hy
    have hi : i < 16 := by
      rcases Nat.lt_or_ge i 16 with h | h
      · exact h
      · rw [List.getElem?_eq_none (by rw [fullB_len _ (Nat.le_refl _)]; exact h)] at hy; cases hy
    rw [fullB_lo _ hi] at hy
    cases hy; rfl
  unfold offerL
  rw [h1, if_neg (by unfold rightL; simp; omega), if_neg (by omega)]
theorem getL_at {b : List Le} {k : Nat} {x : Le} (hk : k < 16) (hx : b[k]? = some x) (hon : x.on = true) : getL b (k : Int) = (x, 0) := by
  unfold getL
  rw [if_pos ⟨by omega, by omega⟩, Int.toNat_natCast, List.getD_eq_getElem?_getD, hx]
  show (if x.on = true then _ else _) = _
  rw [if_pos hon]; rfl
theorem full_withdraw {v p q : Int} {k : Nat} (hk : k < 16) :
    withdrawL (fullB ⟨true, v, p, q, true, -1⟩ 16) (k : Int) v = ((fullB ⟨true, v, p, q, true, -1⟩ 16).set k zeroLe, 0) := by
  unfold withdrawL
  rw [getL_at hk (fullB_lo _ hk) rfl]
  simp
theorem full_again {v p q r : Int} (hv : 0 ≤ v ∧ v < 6) (hr : 0 ≤ r ∧ r < 6) (hne : v ≠ r) {k : Nat} (hk : k < 16) :
    offerL ((fullB ⟨true, v, p, q, true, -1⟩ 16).set k zeroLe) v 0 r false = ((fullB ⟨true, v, p, q, true, -1⟩ 16).set k ⟨true, v, 0, r, false, -1⟩, (k : Int), 0) := by
  have h1 : fnd (fun x => !x.on) ((fullB ⟨true, v, p, q, true, -1⟩ 16).set k zeroLe) = k := fnd_eq (x := zeroLe) (by rw [List.getElem?_set_self (by rw [fullB_len _ (Nat.le_refl _)]; exact hk)]) rfl (fun i y hi hy => by
    rw [List.getElem?_set_ne (by omega), fullB_lo _ (by omega)] at hy
    cases hy; rfl)
  unfold offerL
  rw [h1, if_neg (by unfold rightL; simp; omega), if_pos hk, List.set_set]
theorem zeroBook_full (x : Le) : fullB x 0 = zeroBook := rfl
set_option maxRecDepth 100000 in
set_option maxHeartbeats 4000000 in
theorem leaseFull_walk (a0 a1 a2 : Int) (w : World) (w0 : (Lit.int .u8 a0).wf = true) (w1 : (Lit.int .u8 a1).wf = true) (w2 : (Lit.int .u8 a2).wf = true) :
    Calls Try.prog 4 #[.int .u8 a0, .int .u8 a1, .int .u8 a2] w fun e w' => e = .returned (.bool true) ∧ Below w.heap.size w w' := by
  obtain ⟨m0, rfl, h0⟩ := wf_u8 w0
  obtain ⟨m1, rfl, h1⟩ := wf_u8 w1
  obtain ⟨m2, rfl, h2⟩ := wf_u8 w2
  clear w0 w1 w2
  obtain ⟨v, ev, hv⟩ : ∃ v : Int, (m0 : Int) % 6 = v ∧ 0 ≤ v ∧ v < 6 := ⟨_, rfl, by omega, by omega⟩
  obtain ⟨p, ep, hp⟩ : ∃ p : Int, (m1 : Int) % 32 = p ∧ 0 ≤ p ∧ p < 32 := ⟨_, rfl, by omega, by omega⟩
  obtain ⟨q, eq, hq⟩ : ∃ q : Int, (v + 1) % 6 = q ∧ 0 ≤ q ∧ q < 6 := ⟨_, rfl, by omega, by omega⟩
  obtain ⟨r, er, hr⟩ : ∃ r : Int, (v + 2) % 6 = r ∧ 0 ≤ r ∧ r < 6 := ⟨_, rfl, by omega, by omega⟩
  obtain ⟨k2, ek, hk2⟩ : ∃ k2 : Nat, (m2 : Int) % 16 = (k2 : Int) ∧ k2 < 16 := ⟨m2 % 16, by omega, by omega⟩
  have hvq : v ≠ q := by omega
  have hvr : v ≠ r := by omega
  have a0 : 0 ≤ (m0 : Int) := by omega
  have a1 : 0 ≤ (m1 : Int) := by omega
  have a2 : 0 ≤ (m2 : Int) := by omega
  have b0 : (m0 : Int) < 256 := by omega
  have b1 : (m1 : Int) < 256 := by omega
  have b2 : (m2 : Int) < 256 := by omega
  have v0 := hv.1
  have v6 := hv.2
  have c3 := fun w => offer_calls (fullB ⟨true, v, p, q, true, -1⟩ 16) v 0 q true (fullB_len _ (Nat.le_refl _)) w
  rw [full_no hv (by omega) hq hvq true] at c3
  have l3 := offerL_length (fullB ⟨true, v, p, q, true, -1⟩ 16) v 0 q true (fullB_len _ (Nat.le_refl _))
  generalize offerL (fullB ⟨true, v, p, q, true, -1⟩ 16) v 0 q true = o3 at *
  have F3 := Lib.hid (bookF l3)
  have c4 := fun w => withdraw_calls (fullB ⟨true, v, p, q, true, -1⟩ 16) (k2 : Int) v (fullB_len _ (Nat.le_refl _)) w
  rw [full_withdraw hk2] at c4
  have F4 := Lib.hid (bookF (b := (fullB ⟨true, v, p, q, true, -1⟩ 16).set k2 zeroLe) (by rw [List.length_set, fullB_len _ (Nat.le_refl _)]))
  have c5 := fun w => offer_calls ((fullB ⟨true, v, p, q, true, -1⟩ 16).set k2 zeroLe) v 0 r false (by rw [List.length_set, fullB_len _ (Nat.le_refl _)]) w
  rw [full_again hv hr hvr hk2] at c5
  have F5 := Lib.hid (bookF (b := (fullB ⟨true, v, p, q, true, -1⟩ 16).set k2 ⟨true, v, 0, r, false, -1⟩) (by rw [List.length_set, fullB_len _ (Nat.le_refl _)]))
  have c6 := fun w => get_calls ((fullB ⟨true, v, p, q, true, -1⟩ 16).set k2 ⟨true, v, 0, r, false, -1⟩) (k2 : Int) (by rw [List.length_set, fullB_len _ (Nat.le_refl _)]) w
  rw [getL_at hk2 (by rw [List.getElem?_set_self (by rw [fullB_len _ (Nat.le_refl _)]; exact hk2)]) rfl] at c6
  dsimp only at c3 c4 c5 c6
  have C3 := Lib.hid c3
  have C4 := Lib.hid c4
  have C5 := Lib.hid c5
  have C6 : Hid (∀ w, Calls Try.prog 7 #[.agg (bookCells ((fullB ⟨true, v, p, q, true, -1⟩ 16).set k2 ⟨true, v, 0, r, false, -1⟩)).toArray, .int .i64 (k2 : Int)] w fun e w' => e = .returned (.tuple #[.agg #[.bool true, .int .i64 v, .int .i64 0, .int .i64 r, .bool false, .int .i64 (-1)], .int .i64 0]) ∧ Below w.heap.size w w') := c6
  have C1 := Lib.hid (fun (k : Nat) (hk : k < 16) w => show Calls Try.prog 9 #[.agg (bookCells (fullB ⟨true, v, p, q, true, -1⟩ k)).toArray, .int .i64 v, .int .i64 p, .int .i64 q, .bool true] w fun e w' => e = .returned (.tuple #[.agg (bookCells (fullB ⟨true, v, p, q, true, -1⟩ (k + 1))).toArray, .int .i64 (k : Int), .int .i64 0]) ∧ Below w.heap.size w w' by
    have h := offer_calls (fullB ⟨true, v, p, q, true, -1⟩ k) v p q true (fullB_len _ (by omega)) w
    rw [full_offer hv hp hq hvq hk] at h
    exact h)
  have FK := Lib.hid (fun (k : Nat) (hk : k ≤ 16) => bookF (fullB_len ⟨true, v, p, q, true, -1⟩ hk))
  have F0 := Lib.hid (show bookCells (fullB ⟨true, v, p, q, true, -1⟩ 0) = zeroCells from rfl)
  generalize bookCells ((fullB ⟨true, v, p, q, true, -1⟩ 16).set k2 zeroLe) = B4 at *
  generalize bookCells ((fullB ⟨true, v, p, q, true, -1⟩ 16).set k2 ⟨true, v, 0, r, false, -1⟩) = B5 at *
  generalize bookCells o3.1 = B3 at *
  generalize o3.2.1 = n3 at *
  clear c3 c4 c5 c6 l3 hv hp hq hvq hr hvr h0 h1 h2
  generalize Le.mk true v p q true (-1) = x at *
  have k20 : 0 ≤ (k2 : Int) := by omega
  obtain ⟨ZC, hZC⟩ : ∃ ZC, zeroCells = ZC := ⟨_, rfl⟩
  have hz : ∀ w, (zeroValue 25).run Try.prog w = .ok (.agg ZC.toArray) w := by rw [← hZC]; exact zero_book
  have FZ := Lib.hid (show BookF ZC by rw [← hZC]; exact bookF (b := zeroBook) rfl)
  have hzs : ZC.toArray.size = 96 := by simpa using FZ.out.l
  have hzn : ¬ ZC.toArray = #[] := fun h => by rw [h] at hzs; simp at hzs
  rw [hZC] at F0
  clear hZC
  go_enter Try.func4, Try.ntmps4
  have X_1 := Lib.hid (Own.newL (Below.refl _ w) ZC 25)
  go_upto_region 2 with (fail)
  generalize w.alloc (.cells ZC.toArray 25) = w2 at *
  go_upto_region 3 with (fail)
  rw [ev]
  clear ev a0 b0
  go_wp2_with fail
  go_loopw [9] (fun i wr => ∃ k : Nat, k ≤ 16 ∧ i = .int .i64 k ∧ Own w w.heap.size (bookCells (fullB x k)) 25 wr) (fun i _ => 16 - (intOf i).toNat)
  case atStart => exact ⟨0, by omega, rfl, by rw [F0.out]; exact X_1.out⟩
  case round =>
    clear X_1
    obtain ⟨k, hk, rfl, o1⟩ := hrel
    have X0 := Lib.hid o1
    clear o1
    by_cases hlt : k < 16
    · have hk0 : 0 ≤ (k : Int) := by omega
      have hki : (k : Int) < 16 := by omega
      have F1 := Lib.hid (FK.out k hk)
      have F2 := Lib.hid (FK.out (k + 1) hlt)
      have CK := Lib.hid (C1.out k hlt)
      generalize hBK : bookCells (fullB x k) = BK at *
      generalize hBN : bookCells (fullB x (k + 1)) = BN at *
      have HBN := Lib.hid hBN
      clear hBK hBN
      go_wp2_with (refine wpList_load_mid rfl 25 (.tmp 7) rfl w.heap.size 0 rfl BK _ X0.out.all Try.underlying25 rfl F1.out.i ?_)
      refine (CK.out _).mono ?_
      rintro e w3 ⟨rfl, u3⟩
      have X_4 := Lib.hid (X0.out.step u3)
      clear u3 X0
      have Y_5 := Lib.hid (Own.newL X_4.out.bel ZC 25)
      have LT_X_Y := Lib.hid (show w.heap.size < w3.heap.size from X_4.out.lt)
      have X_6 := Lib.hid (X_4.out.alloc (.cells ZC.toArray 25))
      go_upto_region 7 with (refine wpList_store_mid rfl 25 (.tmp 10) (.tmp 40) rfl w3.heap.size 0 BN.toArray rfl rfl (Y_5.out.there ?s1) ?s2 ?s3 ?_)
      case s1 => have h1 := FZ.out.l; have h2 := F2.out.l; simp <;> omega
      case s2 => simpa using F2.out.i
      case s3 => first | exact F2.out.o | exact all_oneCell_toArray F2.out.o
      have Y_7 := Lib.hid (Y_5.out.setAll BN (by rw [F2.out.l, FZ.out.l]))
      have X_8 := Lib.hid (X_6.out.setAllO (Ne.symm (Nat.ne_of_lt LT_X_Y.out)) Y_5.out.n 0 BN)
      clear Y_5 X_6
      clear X_4
      generalize World.setCells _ _ _ _ = w9 at *
      generalize w3.heap.size = NY at *
      go_wp2_with (first | refine wpList_load_mid rfl 25 (.tmp 10) rfl NY 0 rfl BN _ Y_7.out.all Try.underlying25 rfl F2.out.i ?_ | refine wpList_store_mid rfl 25 (.tmp 7) (.tmp 50) rfl w.heap.size 0 BN.toArray rfl rfl (X_8.out.there ?s1) ?s2 ?s3 ?_)
      case s1 => have h1 := F1.out.l; have h2 := F2.out.l; simp <;> omega
      case s2 => simpa using F2.out.i
      case s3 => first | exact F2.out.o | exact all_oneCell_toArray F2.out.o
      have X_10 := Lib.hid (X_8.out.setAll BN (by rw [F2.out.l, F1.out.l]))
      have Y_11 := Lib.hid (Y_7.out.setAllO (Nat.ne_of_lt LT_X_Y.out) X_8.out.n 0 BN)
      clear X_8 Y_7
      generalize World.setCells _ _ _ _ = w12 at *
      go_roundw
      case rel => exact ⟨k + 1, by omega, by go_num, by rw [HBN.out]; exact X_10.out⟩
      case measure => simp [intOf]; omega
    · obtain rfl : k = 16 := by omega
      have F1 := Lib.hid (FK.out 16 (Nat.le_refl _))
      generalize bookCells (fullB x 16) = BK at *
      clear C1 FK F0 hk hlt
      go_wp2_with (refine wpList_load_mid rfl 25 (.tmp 7) rfl w.heap.size 0 rfl BK _ X0.out.all Try.underlying25 rfl F1.out.i ?_)
      refine (C3.out _).mono ?_
      rintro e w3 ⟨rfl, u3⟩
      have X_4 := Lib.hid (X0.out.step u3)
      clear u3 X0
      have Y_5 := Lib.hid (Own.newL X_4.out.bel ZC 25)
      have LT_X_Y := Lib.hid (show w.heap.size < w3.heap.size from X_4.out.lt)
      have X_6 := Lib.hid (X_4.out.alloc (.cells ZC.toArray 25))
      go_upto_region 11 with (refine wpList_store_mid rfl 25 (.tmp 13) (.tmp 58) rfl w3.heap.size 0 B3.toArray rfl rfl (Y_5.out.there ?s1) ?s2 ?s3 ?_)
      case s1 => have h1 := FZ.out.l; have h2 := F3.out.l; simp <;> omega
      case s2 => simpa using F3.out.i
      case s3 => first | exact F3.out.o | exact all_oneCell_toArray F3.out.o
      have Y_7 := Lib.hid (Y_5.out.setAll B3 (by rw [F3.out.l, FZ.out.l]))
      have X_8 := Lib.hid (X_6.out.setAllO (Ne.symm (Nat.ne_of_lt LT_X_Y.out)) Y_5.out.n 0 B3)
      clear Y_5 X_6
      clear X_4
      generalize World.setCells _ _ _ _ = w9 at *
      generalize w3.heap.size = NY at *
      go_wp2_with (refine wpList_load_mid rfl 25 (.tmp 7) rfl w.heap.size 0 rfl BK _ X_8.out.all Try.underlying25 rfl F1.out.i ?_)
      refine (C4.out _).mono ?_
      rintro e w10 ⟨rfl, u10⟩
      have X_11 := Lib.hid (X_8.out.step u10)
      have Y_12 := Lib.hid (Y_7.out.step u10)
      clear u10 X_8 Y_7
      have Z_13 := Lib.hid (Own.newL X_11.out.bel ZC 25)
      have LT_X_Z := Lib.hid (show w.heap.size < w10.heap.size from X_11.out.lt)
      have X_14 := Lib.hid (X_11.out.alloc (.cells ZC.toArray 25))
      have LT_Y_Z := Lib.hid (show NY < w10.heap.size from Y_12.out.lt)
      have Y_15 := Lib.hid (Y_12.out.alloc (.cells ZC.toArray 25))
      go_upto_region 12 with (refine wpList_store_mid rfl 25 (.tmp 16) (.tmp 68) rfl w10.heap.size 0 B4.toArray rfl rfl (Z_13.out.there ?s1) ?s2 ?s3 ?_)
      case s1 => have h1 := FZ.out.l; have h2 := F4.out.l; simp <;> omega
      case s2 => simpa using F4.out.i
      case s3 => first | exact F4.out.o | exact all_oneCell_toArray F4.out.o
      have Z_16 := Lib.hid (Z_13.out.setAll B4 (by rw [F4.out.l, FZ.out.l]))
      have X_17 := Lib.hid (X_14.out.setAllO (Ne.symm (Nat.ne_of_lt LT_X_Z.out)) Z_13.out.n 0 B4)
      have Y_18 := Lib.hid (Y_15.out.setAllO (Ne.symm (Nat.ne_of_lt LT_Y_Z.out)) Z_13.out.n 0 B4)
      clear Z_13 X_14 Y_15
      clear X_11 Y_12
      generalize World.setCells _ _ _ _ = w19 at *
      generalize w10.heap.size = NZ at *
      go_wp2_with (refine wpList_load_mid rfl 25 (.tmp 16) rfl NZ 0 rfl B4 _ Z_16.out.all Try.underlying25 rfl F4.out.i ?_)
      refine (C5.out _).mono ?_
      rintro e w20 ⟨rfl, u20⟩
      have X_21 := Lib.hid (X_17.out.step u20)
      have Y_22 := Lib.hid (Y_18.out.step u20)
      have Z_23 := Lib.hid (Z_16.out.step u20)
      clear u20 X_17 Y_18 Z_16
      have V_24 := Lib.hid (Own.newL X_21.out.bel ZC 25)
      have LT_X_V := Lib.hid (show w.heap.size < w20.heap.size from X_21.out.lt)
      have X_25 := Lib.hid (X_21.out.alloc (.cells ZC.toArray 25))
      have LT_Y_V := Lib.hid (show NY < w20.heap.size from Y_22.out.lt)
      have Y_26 := Lib.hid (Y_22.out.alloc (.cells ZC.toArray 25))
      have LT_Z_V := Lib.hid (show NZ < w20.heap.size from Z_23.out.lt)
      have Z_27 := Lib.hid (Z_23.out.alloc (.cells ZC.toArray 25))
      go_upto_region 13 with (refine wpList_store_mid rfl 25 (.tmp 18) (.tmp 77) rfl w20.heap.size 0 B5.toArray rfl rfl (V_24.out.there ?s1) ?s2 ?s3 ?_)
      case s1 => have h1 := FZ.out.l; have h2 := F5.out.l; simp <;> omega
      case s2 => simpa using F5.out.i
      case s3 => first | exact F5.out.o | exact all_oneCell_toArray F5.out.o
      have V_28 := Lib.hid (V_24.out.setAll B5 (by rw [F5.out.l, FZ.out.l]))
      have X_29 := Lib.hid (X_25.out.setAllO (Ne.symm (Nat.ne_of_lt LT_X_V.out)) V_24.out.n 0 B5)
      have Y_30 := Lib.hid (Y_26.out.setAllO (Ne.symm (Nat.ne_of_lt LT_Y_V.out)) V_24.out.n 0 B5)
      have Z_31 := Lib.hid (Z_27.out.setAllO (Ne.symm (Nat.ne_of_lt LT_Z_V.out)) V_24.out.n 0 B5)
      clear V_24 X_25 Y_26 Z_27
      clear X_21 Y_22 Z_23
      generalize World.setCells _ _ _ _ = w32 at *
      generalize w20.heap.size = NV at *
      go_wp2_with (refine wpList_load_mid rfl 25 (.tmp 18) rfl NV 0 rfl B5 _ V_28.out.all Try.underlying25 rfl F5.out.i ?_)
      refine (C6.out _).mono ?_
      rintro e w33 ⟨rfl, u33⟩
      have X_34 := Lib.hid (X_29.out.step u33)
      have Y_35 := Lib.hid (Y_30.out.step u33)
      have Z_36 := Lib.hid (Z_31.out.step u33)
      have V_37 := Lib.hid (V_28.out.step u33)
      clear u33 X_29 Y_30 Z_31 V_28
      have L_38 := Lib.hid (Own.new X_34.out.bel #[.bool true, .int .i64 v, .int .i64 0, .int .i64 r, .bool false, .int .i64 (-1)] 23)
      have LT_X_L := Lib.hid (show w.heap.size < w33.heap.size from X_34.out.lt)
      have X_39 := Lib.hid (X_34.out.alloc (.cells #[.bool true, .int .i64 v, .int .i64 0, .int .i64 r, .bool false, .int .i64 (-1)] 23))
      have LT_Y_L := Lib.hid (show NY < w33.heap.size from Y_35.out.lt)
      have Y_40 := Lib.hid (Y_35.out.alloc (.cells #[.bool true, .int .i64 v, .int .i64 0, .int .i64 r, .bool false, .int .i64 (-1)] 23))
      have LT_Z_L := Lib.hid (show NZ < w33.heap.size from Z_36.out.lt)
      have Z_41 := Lib.hid (Z_36.out.alloc (.cells #[.bool true, .int .i64 v, .int .i64 0, .int .i64 r, .bool false, .int .i64 (-1)] 23))
      have LT_V_L := Lib.hid (show NV < w33.heap.size from V_37.out.lt)
      have V_42 := Lib.hid (V_37.out.alloc (.cells #[.bool true, .int .i64 v, .int .i64 0, .int .i64 r, .bool false, .int .i64 (-1)] 23))
      clear X_34 Y_35 Z_36 V_37
      go_upto_region 14 with (fail)
      generalize w33.alloc (.cells #[.bool true, .int .i64 v, .int .i64 0, .int .i64 r, .bool false, .int .i64 (-1)] 23) = w43 at *
      generalize w33.heap.size = NL at *
      clear X_39
      clear Y_40
      clear Z_41
      clear V_42
      go_wp2_with fail
      refine (awake_calls _).mono ?_
      rintro e w44 ⟨rfl, u44⟩
      have L_45 := Lib.hid (L_38.out.step u44)
      clear u44 L_38
      have d3 := L_45.out.cell (i := 3) rfl
      have d5 := L_45.out.cell (i := 5) rfl
      go_wp2_with fail
      go_ret
      exact ⟨rfl, L_45.out.bel⟩
end Go.Proofs.Ytlbphkeiapnigaa.Walks
