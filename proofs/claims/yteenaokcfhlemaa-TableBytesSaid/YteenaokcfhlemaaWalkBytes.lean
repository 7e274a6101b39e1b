/- Walks through the functions of the statement, and the statement over them: each contract says what the call answers and that nothing else changes. -/
import Derived.Test.YteenaokcfhlemaaProg
import Derived.Laws.BytesString
import Derived.Test.YteenaokcfhlemaaBits
import Derived.Test.YteenaokcfhlemaaHeap
import Derived.Test.YteenaokcfhlemaaAid
import Derived.Lib.Hide
import Derived.Test.YteenaokcfhlemaaArr
import Derived.Test.YteenaokcfhlemaaEql
import Derived.Test.YteenaokcfhlemaaWalkPack
import Derived.Test.YteenaokcfhlemaaWalkStore
import Derived.Test.YteenaokcfhlemaaWalkTab
import Derived.Test.YteenaokcfhlemaaWalkMake
import Derived.Test.YteenaokcfhlemaaWalkMade
import Derived.Test.YteenaokcfhlemaaWalkEnts

import Derived.WalkKit
import Derived.WalkSpells
import Derived.WalkLawsBesides
import Derived.Deep.QuietTactic
import Derived.BigQuiet
import Derived.Deep.RegionHeld3
import Derived.Deep.DeepCutAuto
import Derived.Deep.CutBlock
import Derived.Lib.SlBytesConst
import Derived.StillTailTactics
import Derived.Laws.MakeOwn
import Derived.Deep.AppendLies
import Derived.Laws.CopyOwn
import Derived.Maps.AppendAt
import Derived.Deep.Upon
import Derived.Deep.AppendSrc
import Derived.Maps.AppendAt
import Derived.Deep.Upon
import Derived.Deep.AppendSrc
import Derived.RegionTactic
namespace Go.Proofs.Yteenaokcfhlemaa.Walks
set_option linter.unusedVariables false
set_option linter.unusedSimpArgs false
open Go.RowKit Go.Proofs.Yteenaokcfhlemaa.Bits Go.Proofs.Yteenaokcfhlemaa.Heap Go.Proofs.Yteenaokcfhlemaa.Aid Go.Proofs.Yteenaokcfhlemaa.Arr Go.Proofs.Yteenaokcfhlemaa.Eql

/-- The table's root leads to the frames behind it. -/
theorem root6 {L : List Nat} {f : Int} (hL : L.length = 10240) {page : Nat} (hp : page < 32) (hw : wd L 3 (page / 8) = packN f true ((4 + page / 8 : Nat) : Int) true) : Root L f 3 page (4 + page / 8) :=
  ⟨⟨true, by rw [hw]; exact un_pack (by omega) true⟩, by rw [hL]; omega⟩
def bytesW (f : Int) (p fr : Nat) (wr : Bool) (k i : Nat) : Nat :=
  if k = 4 + p / 8 ∧ i = p % 8 then packN f true (fr : Int) wr else if k = 3 ∧ i < 4 then packN f true ((4 + i : Nat) : Int) true else 0
set_option maxRecDepth 8000 in
set_option maxHeartbeats 8000000 in
theorem bytes_walk (n page frame : Int) (wb : Bool) (w : World) (w0 : (Lit.int .u8 n).wf = true) (w1 : (Lit.int .u8 page).wf = true) (w2 : (Lit.int .u8 frame).wf = true) :
    Calls Try.prog 4 #[.int .u8 n, .int .u8 page, .int .u8 frame, .bool wb] w fun e w' => e = .returned (.bool true) ∧ Below w.heap.size w w' := by
  obtain ⟨n, rfl, hn⟩ := wf_u8 w0
  obtain ⟨pg, rfl, hpg⟩ := wf_u8 w1
  obtain ⟨fm, rfl, hfm⟩ := wf_u8 w2
  have MD := Lib.hid (fun W => made_calls n hn W)
  have FC := Lib.hid (fun W => form_calls n hn W)
  obtain ⟨f, hf⟩ : ∃ f : Int, 1 + (n : Int) % 2 = f := ⟨_, rfl⟩
  rw [hf] at MD FC
  obtain ⟨p, hp⟩ : ∃ p, pg % 32 = p := ⟨_, rfl⟩
  obtain ⟨r, hr⟩ : ∃ r, fm % 32 = r := ⟨_, rfl⟩
  have hpI : (pg : Int) % 32 = (p : Int) := by omega
  have hrI : (fm : Int) % 32 = (r : Int) := by omega
  have hp32 : p < 32 := by omega
  have hr32 : r < 32 := by omega
  have hg0 : 0 ≤ (pg : Int) := by omega
  have hm0 : 0 ≤ (fm : Int) := by omega
  clear hf hp hr hpg hfm w0 w1 w2 hn
  generalize (pg : Int) = pgi at *
  generalize (fm : Int) = fmi at *
  generalize (n : Int) = ni at *
  have L6L := Lib.hid (L6_len f)
  have L6W := Lib.hid (L6_wd f)
  have RT := Lib.hid (root6 (L6_len f) hp32 (by rw [L6_wd f 3 (p / 8) (by omega), if_pos ⟨rfl, by omega⟩]))
  have ML := Lib.hid (fun (W : World) (q : Nat) (a : Option Addr) (cap : Nat) (h : Os w (q + 1) q (L6 f) W) (hf : FrP q (.slice a 5 cap) W) => map_calls h.k f (.slice a 5 cap) 3 [4, 5, 6, 7] hf.row (by rw [L6_len]; omega) p hp32 RT.out (8 + r) (by rw [L6_len]; omega) wb)
  rw [show ((8 + r : Nat) : Int) = 8 + (r : Int) by omega] at ML
  have BW : Hid (∀ k i, k < 8 → i < 32 → wd (splice8 (L6 f) (256 * (4 + p / 8) + 8 * (p % 8)) (leB 8 (packN f true (8 + (r : Int)) wb))) k i = bytesW f p (8 + r) wb k i) := by
    intro k i hk hi
    rw [wd_put (by rw [L6_len]; omega) (by omega) (packN_lt _ _ _ _) k i hi, L6_wd f k i hi]
    rfl
  have BL : Hid ((splice8 (L6 f) (256 * (4 + p / 8) + 8 * (p % 8)) (leB 8 (packN f true (8 + (r : Int)) wb))).length = 10240) := by
    show _ = _
    rw [splice8_len (by rw [leB_length, L6_len]; omega), L6_len]
  generalize splice8 (L6 f) (256 * (4 + p / 8) + 8 * (p % 8)) (leB 8 (packN f true (8 + (r : Int)) wb)) = L7 at *
  have LD := Lib.hid (fun (W : World) (q : Nat) (h : Os w (q + 1) q L7 W) (k i : Nat) (hk : k < 8) (hi : i < 32) => load_calls h.k k i (by rw [BL.out]; omega) hi)
  clear RT L6W L6L BL
  have I2 := Lib.hid sizeT
  go_enter Try.func4, Try.ntmps4
  go_upto_region 4 with (first
    | (go_at_call 9; refine (awake_calls _).mono ?_; rintro e w1 ⟨rfl, hb⟩; have HB := Lib.hid hb; clear hb)
    | (go_at_call 11; refine (MD.out _).mono ?_; rintro e w2 ⟨q, a2, c2, rfl, o2, f2⟩; have O2 : Hid (Os w (q + 1) q (L6 f) w2) := ⟨HB.out.trans (o2.bel.mono HB.out.size), Nat.le_trans HB.out.size o2.n, o2.k⟩; have F2 := Lib.hid f2; clear o2 f2))
  have T3 := Lib.hid (Own.new O2.out.bel #[.int .i64 f, .slice a2 5 c2] 35)
  have bb := (Below.refl w2.heap.size w2).alloc (Nat.le_refl _) (.cells #[.int .i64 f, .slice a2 5 c2] 35)
  have O3 := Lib.hid (O2.out.step bb)
  have F3 := Lib.hid (F2.out.below bb)
  clear O2 F2 bb MD HB
  generalize w2.alloc _ = w3 at *
  generalize w2.heap.size = NT at *
  have M3 := Lib.hid (ML.out w3 q a2 c2 O3.out F3.out)
  unfold tabV at M3
  clear ML F3
  go_upto_region 6 with (fail)
  simp only [hpI, hrI]
  clear hpI hrI hg0 hm0
  go_upto_region 9 with (first
    | ((with_reducible refine load_gate (35) (10) ?_); refine wpList_load_w (by rfl) 35 (.tmp 10) rfl NT 0 rfl [.int .i64 f, .slice a2 5 c2] _ T3.out.all Try.underlying35 rfl I2.out ?_)
    | (go_at_call 12; refine M3.out.mono ?_; rintro e w4 ⟨rfl, u4⟩; have O4 := Lib.hid (O3.out.su u4); clear u4))
  clear T3 O3 M3
  go_loopw [14] (fun i wr => ∃ k : Nat, 3 ≤ k ∧ k ≤ 8 ∧ i = .int .i64 k ∧ Os w (q + 1) q L7 wr) (fun i _ => 8 - (intOf i).toNat)
  case atStart => exact ⟨3, by omega, by omega, rfl, O4.out⟩
  case round =>
    clear O4
    obtain ⟨k, hk3, hk8, rfl, ho⟩ := hrel
    have O4 := Lib.hid ho
    clear ho
    by_cases hlt : k < 8
    · have hki : (k : Int) < 8 := by omega
      have hk0 : 0 ≤ (k : Int) := by omega
      go_upto_region 12 with (fail)
      go_loopw [15] (fun i wr => ∃ j : Nat, j ≤ 32 ∧ i = .int .i64 j ∧ Os w (q + 1) q L7 wr) (fun i _ => 32 - (intOf i).toNat)
      case atStart => exact ⟨0, by omega, rfl, O4.out⟩
      case round =>
        clear O4
        obtain ⟨j, hj, rfl, ho⟩ := hrel
        have O4 := Lib.hid ho
        clear ho
        by_cases hjl : j < 32
        · have hji : (j : Int) < 32 := by omega
          have hj0 : 0 ≤ (j : Int) := by omega
          have L1 := Lib.hid (LD.out _ q O4.out k j hlt hjl)
          rw [show ofB ((L7.drop (256 * k + 8 * j)).take 8) = bytesW f p (8 + r) wb k j from BW.out k j hlt hjl] at L1
          have hcs : (k = 3 ∧ j < 4 ∧ ((k : Int) == 3) = true ∧ ((k : Int) == 4 + (p : Int) / 8) = false) ∨ (¬ (k = 3 ∧ j < 4) ∧ k = 4 + p / 8 ∧ j = p % 8 ∧ ((k : Int) == 3) = false ∧ ((k : Int) == 4 + (p : Int) / 8) = true ∧ ((j : Int) == (p : Int) % 8) = true) ∨
              (¬ (k = 3 ∧ j < 4) ∧ ¬ (k = 4 + p / 8 ∧ j = p % 8) ∧ ((((k : Int) == 3) = true ∧ ¬ (j : Int) < 4 ∧ ((k : Int) == 4 + (p : Int) / 8) = false) ∨ (((k : Int) == 3) = false ∧ (((k : Int) == 4 + (p : Int) / 8) = false ∨ (((k : Int) == 4 + (p : Int) / 8) = true ∧ ((j : Int) == (p : Int) % 8) = false))))) := by
            by_cases h1 : k = 3 ∧ j < 4
            · exact .inl ⟨h1.1, h1.2, beq_iff_eq.2 (by omega), beq_false_of_ne (by omega)⟩
            · by_cases h2 : k = 4 + p / 8 ∧ j = p % 8
              · exact .inr (.inl ⟨h1, h2.1, h2.2, beq_false_of_ne (by omega), beq_iff_eq.2 (by omega), beq_iff_eq.2 (by omega)⟩)
              · refine .inr (.inr ⟨h1, h2, ?_⟩)
                by_cases h3 : k = 3
                · exact .inl ⟨beq_iff_eq.2 (by omega), by omega, beq_false_of_ne (by omega)⟩
                · refine .inr ⟨beq_false_of_ne (by omega), ?_⟩
                  by_cases h4 : k = 4 + p / 8
                  · exact .inr ⟨beq_iff_eq.2 (by omega), beq_false_of_ne (by omega)⟩
                  · exact .inl (beq_false_of_ne (by omega))
          rcases hcs with ⟨hk, hj4, b1, b2⟩ | ⟨h1, h2, h3, b1, b2, b3⟩ | ⟨h1, h2, hb⟩
          · have PC := Lib.hid (fun W => pack_calls f true ((4 + j : Nat) : Int) true W)
            rw [show bytesW f p (8 + r) wb k j = packN f true ((4 + j : Nat) : Int) true by unfold bytesW; rw [if_neg (by omega), if_pos ⟨hk, hj4⟩]] at L1
            rw [show ((4 + j : Nat) : Int) = 4 + (j : Int) by omega] at PC L1
            have hj4i : (j : Int) < 4 := by omega
            clear hk hj4
            generalize ((packN f true (4 + (j : Int)) true : Nat) : Int) = pk at *
            go_wp2_with (first
              | (go_at_call 13; refine L1.out.mono ?_; rintro e w5 ⟨rfl, u5⟩; have O5 := Lib.hid (O4.out.step u5); clear u5)
              | (go_at_call 7; refine (FC.out _).mono ?_; rintro e w' ⟨rfl, rfl⟩)
              | (go_at_call 10; refine (PC.out _).mono ?_; rintro e w6 ⟨rfl, u6⟩; have O6 := Lib.hid (O5.out.step u6); clear u6))
            go_roundw
            case rel => exact ⟨j + 1, by omega, by go_num, O6.out⟩
            case measure => simp [intOf]; omega
          · have PC := Lib.hid (fun W => pack_calls f true ((8 + r : Nat) : Int) wb W)
            rw [show bytesW f p (8 + r) wb k j = packN f true ((8 + r : Nat) : Int) wb by unfold bytesW; rw [if_pos ⟨h2, h3⟩]] at L1
            rw [show ((8 + r : Nat) : Int) = 8 + (r : Int) by omega] at PC L1
            clear h1 h2 h3
            generalize ((packN f true (8 + (r : Int)) wb : Nat) : Int) = pk at *
            go_wp2_with (first
              | (go_at_call 13; refine L1.out.mono ?_; rintro e w5 ⟨rfl, u5⟩; have O5 := Lib.hid (O4.out.step u5); clear u5)
              | (go_at_call 7; refine (FC.out _).mono ?_; rintro e w' ⟨rfl, rfl⟩)
              | (go_at_call 10; refine (PC.out _).mono ?_; rintro e w6 ⟨rfl, u6⟩; have O6 := Lib.hid (O5.out.step u6); clear u6))
            go_roundw
            case rel => exact ⟨j + 1, by omega, by go_num, O6.out⟩
            case measure => simp [intOf]; omega
          · rw [show bytesW f p (8 + r) wb k j = 0 by unfold bytesW; rw [if_neg h2, if_neg h1]] at L1
            clear h1 h2
            rcases hb with ⟨b1, b2, b3⟩ | ⟨b1, b2 | ⟨b2, b3⟩⟩
            all_goals
              go_wp2_with (go_at_call 13; refine L1.out.mono ?_; rintro e w5 ⟨rfl, u5⟩; have O5 := Lib.hid (O4.out.step u5); clear u5)
              go_roundw
              case rel => exact ⟨j + 1, by omega, by go_num, O5.out⟩
              case measure => simp [intOf]; omega
        · obtain rfl : j = 32 := by omega
          go_wp2_with fail
          go_roundw
          case rel => exact ⟨k + 1, by omega, by omega, by go_num, O4.out⟩
          case measure => simp [intOf]; omega
    · obtain rfl : k = 8 := by omega
      go_wp2_with fail
      go_ret
      exact ⟨rfl, O4.out.bel⟩
end Go.Proofs.Yteenaokcfhlemaa.Walks
