/- Walks through the functions of the statement, and the statement over them: each contract says what the call answers and that nothing else changes. -/
import Derived.Test.YthgccppclkkohaaProg
import Derived.Test.YthgccppclkkohaaWalkSeat
import Derived.Test.YthgccppclkkohaaWalkSeat2
import Derived.Test.YthgccppclkkohaaBits
import Derived.Test.YthgccppclkkohaaHeap
import Derived.Test.YthgccppclkkohaaAid
import Derived.Lib.Hide
import Derived.Test.YthgccppclkkohaaArr
import Derived.Test.YthgccppclkkohaaEql
import Derived.WalkKit
import Derived.WalkSpells
import Derived.WalkLawsBesides
import Derived.Deep.QuietTactic
import Derived.BigQuiet
import Derived.Deep.RegionHeld3
import Derived.Deep.DeepCutAuto
import Derived.Deep.CutBlock
import Derived.Lib.SlBytesConst
import Derived.StillTailTactics
import Derived.Laws.MakeOwn
import Derived.Deep.AppendLies
import Derived.RegionTactic
import Derived.Deep.RegionLaw
namespace Go.Proofs.Ythgccppclkkohaa.Walks
set_option linter.unusedVariables false
set_option linter.unusedSimpArgs false
open Go.RowKit Go.Proofs.Ythgccppclkkohaa.Bits Go.Proofs.Ythgccppclkkohaa.Heap Go.Proofs.Ythgccppclkkohaa.Aid Go.Proofs.Ythgccppclkkohaa.Arr Go.Proofs.Ythgccppclkkohaa.Eql

def RowO (w : World) (l : List Nat) (e : Ending) (w' : World) : Prop := ∃ v, e = .returned v ∧ w'.ownsRow (w.heap.size + 1) 22 1 v l.length (l.map enc64) ∧ Below w.heap.size w w'
set_option maxHeartbeats 4000000 in
theorem refWords_own (x : Se) (h : x.Ok) (w : World) : Calls Try.prog 15 #[.agg x.cells.toArray] w (RowO w (packL x)) := by
  obtain ⟨ii, hii, hz, hs, hb⟩ := word_info
  have HI := Lib.hid hii
  have HZ := Lib.hid hz
  have HSz := Lib.hid hs
  have HBy := Lib.hid hb
  clear hii hz hs hb
  have X1 : Hid (Own w w.heap.size x.cells 26 (w.alloc (.cells x.cells.toArray 26))) := Own.newL (Below.refl _ _) _ _
  have LT := Lib.hid X1.out.lt
  have OK := Lib.hid h
  have HL := Lib.hid h.l
  have LPK := Lib.hid (packL_len h)
  have GR := Lib.hid (fun (k : Nat) (hk : k < 16) => h.gr (i := k) (by omega))
  have TS : Hid (∀ k, k < 16 → (x.r.take (k + 1)).map enc64 = (x.r.take k).map enc64 ++ [.int .u64 ((x.r.getD k 0 : Nat) : Int)]) := fun k hk => by
    have hl := h.l
    rw [List.take_succ_eq_append_getElem (show k < x.r.length by omega), List.map_append, List.getD_eq_getElem?_getD, List.getElem?_eq_getElem (show k < x.r.length by omega)]
    rfl
  clear h
  generalize hXC : x.cells = XC at *
  have HXC := Lib.hid hXC
  clear hXC
  go_enter Try.func15, Try.ntmps15
  go_upto_region 1 with (fail)
  generalize w.alloc (.cells XC.toArray 26) = w1 at *
  go_wp2
  go_loopw [3, 4] (fun t i wr => ∃ k : Nat, k ≤ 16 ∧ i = .int .i64 k ∧ Own w w.heap.size XC 26 wr ∧ wr.ownsRow (w.heap.size + 1) 22 1 t k ((x.r.take k).map enc64) ∧ w.heap.size + 1 ≤ wr.heap.size) (fun _ i _ => 16 - (intOf i).toNat)
  case atStart => exact ⟨0, by omega, rfl, X1.out, World.ownsRow_nil _ _ _ _, LT.out⟩
  case round =>
    clear X1
    obtain ⟨k, hk, rfl, o2, n2, b2⟩ := hrel
    obtain ⟨av, capv, rfl⟩ := own_form n2
    have X2 := Lib.hid o2
    have N2 := Lib.hid n2
    have Z2 := Lib.hid b2
    clear o2 n2 b2
    by_cases hlt : k < 16
    · have c1 := X2.out.cell (GR.out k hlt)
      have T1 := Lib.hid (TS.out k hlt)
      have hk0 : 0 ≤ (k : Int) := by omega
      have hk16 : (k : Int) < 16 := by omega
      generalize ((x.r.getD k 0 : Nat) : Int) = vk at *
      have NW := Lib.hid (fun W : World => news_blk (cs := [.int .u64 vk]) (sp := []) (by rw [List.append_nil]; exact Blk.new W #[.int .u64 vk] 22))
      go_wp2_with (at_builtin; refine wpList_append_own _ (by rfl) _ _ _ (by rfl) (w.heap.size + 1) 22 ii _ 1 8 Try.underlying34 HI.out HZ.out HSz.out HBy.out (by rfl) (by omega) (.slice av k capv) k _ (by rfl) (sl_below N2.out ((Below.refl _ _).alloc (Nat.le_refl _) _)) ⟨wr.heap.size, 0, none⟩ 1 1 [.int .u64 vk] (by rfl) (by rfl) (NW.out _) (by simp [Value.oneCell']) (by unfold maxLen; omega) (by omega) (Nat.le_trans Z2.out (by simp)) ?_; intro v5 w5 hown hgrow hiff; have G5 := Lib.hid hgrow; have N5 := Lib.hid hown; clear hgrow hown hiff)
      have GE := Lib.hid (own_ge N2.out)
      have X5 := Lib.hid ((X2.out.alloc (.cells #[.int .u64 vk] 22)).keep (keep_grown G5.out) (fun h => by have := GE.out _ h; omega) (fun i hi h => by have := GE.out _ h; omega))
      have Z5 := Lib.hid (Nat.le_trans Z2.out (Nat.le_trans (by simp) G5.out.size))
      go_roundw
      case rel => exact ⟨k + 1, by omega, by go_num, X5.out, by rw [T1.out]; exact N5.out, Z5.out⟩
      case measure => simp [intOf]; omega
    · obtain rfl : k = 16 := by omega
      clear hk hlt
      clear TS GR
      have c16 := X2.out.cell (by rw [← HXC.out]; exact OK.out.gr (i := 16) (by omega))
      have c17 := X2.out.cell (by rw [← HXC.out]; exact OK.out.gr (i := 17) (by omega))
      have c18 := X2.out.cell (by rw [← HXC.out]; exact OK.out.gr (i := 18) (by omega))
      have c19 := X2.out.cell (by rw [← HXC.out]; exact OK.out.gr (i := 19) (by omega))
      have c20 := X2.out.cell (by rw [← HXC.out]; exact OK.out.gr (i := 20) (by omega))
      have c21 := X2.out.cell (by rw [← HXC.out]; exact OK.out.gr (i := 21) (by omega))
      have c22 := X2.out.cell (by rw [← HXC.out]; exact OK.out.g22)
      have c23 := X2.out.cell (by rw [← HXC.out]; exact OK.out.g23)
      have c24 := X2.out.cell (by rw [← HXC.out]; exact OK.out.g24)
      have c25 := X2.out.cell (by rw [← HXC.out]; exact OK.out.g25)
      have b23 : 0 ≤ (x.st : Int) := by omega
      have b24 : 0 ≤ (x.pe : Int) := by omega
      have b25 : 0 ≤ (x.ma : Int) := by omega
      have m23 : (x.st : Int) < 256 := by have := OK.out.s; omega
      have m24 : (x.pe : Int) < 4294967296 := by have := OK.out.p; omega
      have m25 : (x.ma : Int) < 4294967296 := by have := OK.out.m; omega
      have e26 : Hid ((packL x).map enc64 = (x.r.take 16).map enc64 ++ [.int .u64 ((x.r.getD 16 0 : Nat) : Int), .int .u64 ((x.r.getD 17 0 : Nat) : Int), .int .u64 ((x.r.getD 18 0 : Nat) : Int), .int .u64 ((x.r.getD 19 0 : Nat) : Int), .int .u64 ((x.r.getD 20 0 : Nat) : Int), .int .u64 ((x.r.getD 21 0 : Nat) : Int), .int .u64 ((flagN x.op : Nat) : Int), .int .u64 (x.st : Int), .int .u64 (x.pe : Int), .int .u64 (x.ma : Int)]) := by
        have h6 : (x.r.drop 16).length = 6 := by rw [List.length_drop, HL.out]
        have hd : ∀ i, i < 6 → x.r.getD (16 + i) 0 = (x.r.drop 16).getD i 0 := by
          intro i hi
          rw [List.getD_eq_getElem?_getD, List.getD_eq_getElem?_getD, List.getElem?_drop]
        show (packL x).map enc64 = _
        rw [packL]
        conv => lhs; rw [← List.take_append_drop 16 x.r]
        rw [hd 0 (by omega), hd 1 (by omega), hd 2 (by omega), hd 3 (by omega), hd 4 (by omega), hd 5 (by omega)]
        match x.r.drop 16, h6 with
        | [a1, a2, a3, a4, a5, a6], _ => simp [enc64]
      have w23 : IntKind.u64.wrap (x.st : Int) = (x.st : Int) := wrap_lt (k := .u64) rfl (by have := OK.out.s; show _ < 2 ^ 64; omega)
      have w24 : IntKind.u64.wrap (x.pe : Int) = (x.pe : Int) := wrap_lt (k := .u64) rfl (by have := OK.out.p; show _ < 2 ^ 64; omega)
      have w25 : IntKind.u64.wrap (x.ma : Int) = (x.ma : Int) := wrap_lt (k := .u64) rfl (by have := OK.out.m; show _ < 2 ^ 64; omega)
      generalize ((x.r.getD 16 0 : Nat) : Int) = v16 at *
      generalize ((x.r.getD 17 0 : Nat) : Int) = v17 at *
      generalize ((x.r.getD 18 0 : Nat) : Int) = v18 at *
      generalize ((x.r.getD 19 0 : Nat) : Int) = v19 at *
      generalize ((x.r.getD 20 0 : Nat) : Int) = v20 at *
      generalize ((x.r.getD 21 0 : Nat) : Int) = v21 at *
      generalize (x.st : Int) = v23 at *
      generalize (x.pe : Int) = v24 at *
      generalize (x.ma : Int) = v25 at *
      generalize hop : x.op = op at *
      clear hop
      cases op with
      | true =>
        have E26 : Hid ((packL x).map enc64 = (x.r.take 16).map enc64 ++ [.int .u64 v16, .int .u64 v17, .int .u64 v18, .int .u64 v19, .int .u64 v20, .int .u64 v21, .int .u64 1, .int .u64 v23, .int .u64 v24, .int .u64 v25]) := Lib.hid e26.out
        have NW := Lib.hid (fun W : World => news_blk (cs := [.int .u64 v16, .int .u64 v17, .int .u64 v18, .int .u64 v19, .int .u64 v20, .int .u64 v21, .int .u64 1, .int .u64 v23, .int .u64 v24, .int .u64 v25]) (sp := []) (by rw [List.append_nil]; exact Blk.new W #[.int .u64 v16, .int .u64 v17, .int .u64 v18, .int .u64 v19, .int .u64 v20, .int .u64 v21, .int .u64 1, .int .u64 v23, .int .u64 v24, .int .u64 v25] 22))
        clear e26
        go_upto_region 9 with (fail)
        go_wp2_with (at_builtin; refine wpList_append_own _ (by rfl) _ _ _ (by rfl) (w.heap.size + 1) 22 ii _ 1 8 Try.underlying34 HI.out HZ.out HSz.out HBy.out (by rfl) (by omega) (.slice av 16 capv) 16 _ (by rfl) (sl_below N2.out ((Below.refl _ _).alloc (Nat.le_refl _) _)) ⟨wr.heap.size, 0, none⟩ 10 10 [.int .u64 v16, .int .u64 v17, .int .u64 v18, .int .u64 v19, .int .u64 v20, .int .u64 v21, .int .u64 1, .int .u64 v23, .int .u64 v24, .int .u64 v25] (by rfl) (by rfl) (NW.out _) (by simp [Value.oneCell']) (by unfold maxLen; omega) (by omega) (Nat.le_trans Z2.out (by simp)) ?_; intro v5 w5 hown hgrow hiff; have G5 := Lib.hid hgrow; have N5 := Lib.hid hown; clear hgrow hown hiff)
        have GE := own_ge N2.out
        have XB := X2.out.bel
        rw [← E26.out] at N5
        have bel : Below w.heap.size w w5 := below_grown (XB.alloc XB.size _) G5.out (fun k hk => by have := GE k hk; omega)
        go_ret
        exact ⟨_, rfl, by rw [LPK.out]; exact N5.out, bel⟩
      | false =>
        have E26 : Hid ((packL x).map enc64 = (x.r.take 16).map enc64 ++ [.int .u64 v16, .int .u64 v17, .int .u64 v18, .int .u64 v19, .int .u64 v20, .int .u64 v21, .int .u64 0, .int .u64 v23, .int .u64 v24, .int .u64 v25]) := Lib.hid e26.out
        have NW := Lib.hid (fun W : World => news_blk (cs := [.int .u64 v16, .int .u64 v17, .int .u64 v18, .int .u64 v19, .int .u64 v20, .int .u64 v21, .int .u64 0, .int .u64 v23, .int .u64 v24, .int .u64 v25]) (sp := []) (by rw [List.append_nil]; exact Blk.new W #[.int .u64 v16, .int .u64 v17, .int .u64 v18, .int .u64 v19, .int .u64 v20, .int .u64 v21, .int .u64 0, .int .u64 v23, .int .u64 v24, .int .u64 v25] 22))
        clear e26
        go_upto_region 9 with (fail)
        go_wp2_with (at_builtin; refine wpList_append_own _ (by rfl) _ _ _ (by rfl) (w.heap.size + 1) 22 ii _ 1 8 Try.underlying34 HI.out HZ.out HSz.out HBy.out (by rfl) (by omega) (.slice av 16 capv) 16 _ (by rfl) (sl_below N2.out ((Below.refl _ _).alloc (Nat.le_refl _) _)) ⟨wr.heap.size, 0, none⟩ 10 10 [.int .u64 v16, .int .u64 v17, .int .u64 v18, .int .u64 v19, .int .u64 v20, .int .u64 v21, .int .u64 0, .int .u64 v23, .int .u64 v24, .int .u64 v25] (by rfl) (by rfl) (NW.out _) (by simp [Value.oneCell']) (by unfold maxLen; omega) (by omega) (Nat.le_trans Z2.out (by simp)) ?_; intro v5 w5 hown hgrow hiff; have G5 := Lib.hid hgrow; have N5 := Lib.hid hown; clear hgrow hown hiff)
        have GE := own_ge N2.out
        have XB := X2.out.bel
        rw [← E26.out] at N5
        have bel : Below w.heap.size w w5 := below_grown (XB.alloc XB.size _) G5.out (fun k hk => by have := GE k hk; omega)
        go_ret
        exact ⟨_, rfl, by rw [LPK.out]; exact N5.out, bel⟩
theorem refWords_calls (x : Se) (h : x.Ok) (w : World) : Calls Try.prog 15 #[.agg x.cells.toArray] w (RowP w (packL x)) :=
  (refWords_own x h w).mono fun _ _ ⟨v, h1, h2, h3⟩ => ⟨v, h1, row_owns64 h2, h3⟩
theorem refmix_hi (m : Nat) : (m : Int) / 4294967296 * 2654435769 + ((m : Int) / 4294967296 * 2135587861 + (m : Int) % 4294967296 * 2135587861 / 4294967296) / 4294967296 +
      ((m : Int) % 4294967296 * 2654435769 + ((m : Int) / 4294967296 * 2135587861 + (m : Int) % 4294967296 * 2135587861 / 4294967296) % 4294967296) / 4294967296 = ((m * 11400714819323198485 / 18446744073709551616 : Nat) : Int) := by
  have h := mul_hi ((m : Int) / 4294967296) ((m : Int) % 4294967296)
  rw [Int.add_comm ((m : Int) % 4294967296 * 2654435769), h]
  omega
theorem refmix_lo (m : Nat) : ((m : Int) % 4294967296 * 2654435769 + ((m : Int) / 4294967296 * 2135587861 + (m : Int) % 4294967296 * 2135587861 / 4294967296)) % 4294967296 * 4294967296 + (m : Int) % 4294967296 * 2135587861 % 4294967296 = ((m * 11400714819323198485 % 18446744073709551616 : Nat) : Int) := by
  omega
theorem rot17_plus {h : Nat} (hh : h < 2 ^ 64) : IntKind.u64.wrap (IntKind.u64.wrap ((h : Int) * 131072) + (h : Int) / 140737488355328) = ((rot17 h : Nat) : Int) := by
  unfold rot17
  rw [wrap_u64, wrap_u64]
  omega
set_option maxHeartbeats 1000000 in
theorem refMix_calls {s x : Nat} (hs : s < 2 ^ 64) (hx : x < 2 ^ 64) (w : World) :
    Calls Try.prog 24 #[.int .u64 s, .int .u64 x] w fun e w' => e = .returned (.int .u64 (mixN s x)) ∧ w = w' := by
  have hX := bits_xor (k := .u64) rfl hs hx
  have hm : s ^^^ x < 2 ^ 64 := Nat.xor_lt_two_pow hs hx
  unfold mixN
  generalize s ^^^ x = m at *
  go_enter Try.func24, Try.ntmps24
  go_wp2
  go_ret
  refine ⟨ret_int ?_, rfl⟩
  rw [refmix_hi m, refmix_lo m, rot17_plus (by omega)]
  exact bits_xor (k := .u64) rfl (rot17_lt (by omega)) (Nat.mod_lt _ (by omega))

set_option maxHeartbeats 2000000 in
theorem refSum_calls (x : Se) (h : x.Ok) (w : World) : Calls Try.prog 18 #[.agg x.cells.toArray] w fun e w' => e = .returned (.int .u64 ((sumN (packL x) : Nat) : Int)) ∧ Below w.heap.size w w' := by
  have HP := Lib.hid (refWords_calls x h)
  have LP := Lib.hid (packL_len h)
  have BP := Lib.hid (packL_lt h)
  have IX := Lib.hid (info_se h)
  have X1 : Hid (Own w w.heap.size x.cells 26 (w.alloc (.cells x.cells.toArray 26))) := Own.newL (Below.refl _ _) _ _
  clear h
  generalize packL x = pl at *
  generalize x.cells = XC at *
  go_enter Try.func18, Try.ntmps18
  go_upto_region 1 with (fail)
  generalize w.alloc (.cells XC.toArray 26) = w1 at *
  go_wp2_with (first | refine wpList_load_mid rfl 26 (.tmp 1) rfl w.heap.size 0 rfl XC _ X1.out.all Try.underlying26 rfl IX.out ?_ | (go_at_call 15; refine (HP.out _).mono ?_; rintro e w2 ⟨v, rfl, r2, u2⟩; have X2 := Lib.hid (X1.out.step u2); have R2 := Lib.hid r2; obtain ⟨a2, c2, rfl⟩ := r2.form; rw [LP.out]; clear u2 r2))
  have hz0 := Lib.hid (show sumN (pl.take 0) = 0 from rfl)
  go_loopw [4, 5] (fun t i wr => ∃ k : Nat, k ≤ 26 ∧ i = .int .i64 k ∧ t = .int .u64 ((sumN (pl.take k) : Nat) : Int) ∧ Below w2.heap.size w2 wr) (fun _ i _ => 26 - (intOf i).toNat)
  case atStart => exact ⟨0, by omega, rfl, rfl, Below.refl _ _⟩
  case round =>
    obtain ⟨k, hk, rfl, rfl, hb⟩ := hrel
    have B3 := Lib.hid hb
    clear hb
    by_cases hlt : k < 26
    · have hkl : k < pl.length := by rw [LP.out]; exact hlt
      obtain ⟨ad, rfl, hcp⟩ : ∃ ad, a2 = some ad ∧ w2.cell? (ad.add k) = some (.int .u64 ((pl[k] : Nat) : Int)) := by
        rcases R2.out with ⟨h, h0⟩ | ⟨ad, c', h, _, hc⟩
        · rw [h0] at hkl; simp at hkl
        · injection h with h1 _ _
          exact ⟨ad, h1, hc k _ (List.getElem?_eq_getElem hkl)⟩
      have cw : wr.cell? (ad.add k) = some (.int .u64 ((pl[k] : Nat) : Int)) := by rw [B3.out.cell (World.block_lt_of_cell? w2 _ hcp), hcp]
      have MC := Lib.hid (fun W => refMix_calls (sumN_lt (pl.take k) (fun y hy => BP.out y (List.mem_of_mem_take hy))) (BP.out pl[k] (List.getElem_mem hkl)) W)
      rw [← sum_step hkl] at MC
      clear hcp
      generalize ((pl[k] : Nat) : Int) = xi at *
      generalize ((sumN (pl.take k) : Nat) : Int) = si at *
      go_wp2_with (go_at_call 24; refine (MC.out _).mono ?_; rintro e w4 ⟨rfl, rfl⟩)
      go_roundw
      case rel => exact ⟨k + 1, by omega, by go_num, rfl, B3.out⟩
      case measure => simp [intOf]; omega
    · obtain rfl : k = 26 := by omega
      rw [List.take_of_length_le (by rw [LP.out]; omega)]
      go_wp2
      go_ret
      exact ⟨rfl, X2.out.bel.trans (B3.out.mono X2.out.bel.size)⟩
end Go.Proofs.Ythgccppclkkohaa.Walks
