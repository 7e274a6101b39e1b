/- Walks through the functions of the statement, and the statement over them: each contract says what the call answers and that nothing else changes. -/
import Derived.Test.YtjlodddlbgpcdaaDoorProg
import Derived.Test.YtjlodddlbgpcdaaDoorBits
import Derived.Test.YtjlodddlbgpcdaaDoorHeap
import Derived.Test.YtjlodddlbgpcdaaDoorAid
import Derived.Test.YtjlodddlbgpcdaaDoorArr
import Derived.Test.YtjlodddlbgpcdaaDoorEql
import Derived.Test.YtjlodddlbgpcdaaDoorWalkBase
import Derived.Test.YtjlodddlbgpcdaaDoorWalkCode
import Derived.Test.YtjlodddlbgpcdaaDoorWalkSeat
import Derived.Test.YtjlodddlbgpcdaaDoorWalkRef
import Derived.Test.YtjlodddlbgpcdaaDoorWalkRefR
import Derived.Test.YtjlodddlbgpcdaaDoorWalkBus
import Derived.Test.YtjlodddlbgpcdaaDoorWalkBus2
import Derived.Lib.Hide
import Derived.WalkKit
import Derived.WalkSpells
import Derived.WalkLawsBesides
import Derived.Deep.QuietTactic
import Derived.BigQuiet
import Derived.Deep.RegionHeld3
import Derived.Deep.DeepCutAuto
import Derived.Deep.CutBlock
import Derived.Lib.SlBytesConst
import Derived.StillTailTactics
import Derived.RegionTactic
import Derived.Deep.RegionLaw
import Derived.Laws.BytesString
import Derived.Laws.MakeOwn
import Derived.Deep.AppendLies
import Derived.Laws.CopyOwn
import Derived.Maps.AppendAt
import Derived.Deep.Upon
import Derived.Deep.AppendSrc
import Derived.Shelf.Abstract
import Derived.Shelf.Spec.TrailingZeros
namespace Go.Proofs.YtjlodddlbgpcdaaDoor.Walks
set_option linter.unusedVariables false
set_option linter.unusedSimpArgs false
open Go.RowKit Go.Proofs.YtjlodddlbgpcdaaDoor.Bits Go.Proofs.YtjlodddlbgpcdaaDoor.Heap Go.Proofs.YtjlodddlbgpcdaaDoor.Aid Go.Proofs.YtjlodddlbgpcdaaDoor.Arr Go.Proofs.YtjlodddlbgpcdaaDoor.Eql

theorem ofB_cons (x : Nat) (l : List Nat) : ofB (x :: l) = x + 256 * ofB l := rfl
theorem getRow {w : World} {v : Value} {l : List Nat} (h : Row w enc8 v l) {k : Nat} (hk : k < l.length) : ∃ a cap, v = .slice (some a) l.length cap ∧ w.cell? (a.add k) = some (.int .u8 ((l[k] : Nat) : Int)) := by
  rcases h with ⟨_, h0⟩ | ⟨a, cap, hv, _, hc⟩
  · rw [h0] at hk; simp at hk
  · exact ⟨a, cap, hv, hc k _ (List.getElem?_eq_getElem hk)⟩
set_option maxHeartbeats 2000000 in
theorem number_calls (l : List Nat) (v : Value) (w : World) (hr : Row w enc8 v l) (hx : ∀ y ∈ l, y < 256) (hn : l.length ≤ 8) :
    Calls Tryd.prog 47 #[v] w fun e w' => e = .returned (.int .u64 ((ofB l : Nat) : Int)) ∧ w' = w := by
  obtain ⟨a, cap, rfl⟩ := hr.form
  have HR := Lib.hid hr
  have HX := Lib.hid hx
  have hni : (l.length : Int) ≤ 8 := by omega
  clear hr hx
  go_enter Tryd.func47, Tryd.ntmps47
  go_upto_region 3 with (fail)
  go_loopw [3, 4] (fun sv vi wr => ∃ k : Nat, k ≤ l.length ∧ vi = .int .i64 ((k : Int) - 1) ∧ sv = .int .u64 ((ofB (l.drop k) : Nat) : Int) ∧ wr = w) (fun _ vi _ => ((intOf vi) + 1).toNat)
  case atStart => exact ⟨l.length, Nat.le_refl _, rfl, by rw [List.drop_length]; rfl, rfl⟩
  case round =>
    obtain ⟨k, hk, rfl, rfl, rfl⟩ := hrel
    by_cases h0 : k = 0
    · subst h0
      rw [List.drop_zero]
      go_wp2
      go_ret
      exact ⟨rfl, rfl⟩
    · obtain ⟨j, rfl⟩ : ∃ j, k = j + 1 := ⟨k - 1, by omega⟩
      have hj : j < l.length := by omega
      have ej : (((j + 1 : Nat) : Int) - 1) = (j : Int) := by omega
      rw [ej]
      obtain ⟨a2, cap2, hv, hc⟩ := getRow HR.out hj
      injection hv with h1 h2 h3
      subst h1
      clear h2 h3
      have E := Lib.hid (show ofB (l.drop j) = l[j] + 256 * ofB (l.drop (j + 1)) by rw [List.drop_eq_getElem_cons hj, ofB_cons])
      have hy := HX.out _ (List.getElem_mem hj)
      have hb : ofB (l.drop (j + 1)) < 2 ^ 56 := by
        refine Nat.lt_of_lt_of_le (ofB_lt _ (fun y hy => HX.out y (List.mem_of_mem_drop hy))) ?_
        rw [show (2 : Nat) ^ 56 = 256 ^ 7 by decide]
        exact Nat.pow_le_pow_right (by decide) (by rw [List.length_drop]; omega)
      generalize l[j] = y at *
      generalize ofB (l.drop (j + 1)) = q at *
      have hji : (j : Int) < (l.length : Int) := by omega
      have hw : IntKind.u64.wrap (256 * (q : Int)) = 256 * (q : Int) := by rw [wrap_u64]; omega
      have hw2 : IntKind.u64.wrap (256 * (q : Int) + (y : Int)) = 256 * (q : Int) + (y : Int) := by rw [wrap_u64]; omega
      have hy0 : 0 ≤ (y : Int) := by omega
      have hy1 : (y : Int) ≤ 255 := by omega
      have hq0 : 0 ≤ (q : Int) := by omega
      clear hb hy
      go_wp2
      all_goals exact ⟨⟨j, by omega, by go_num, by rw [E.out]; congr 1; omega, by first | rfl | trivial⟩, by simp only [intOf]; omega⟩
theorem seg_take {M : Me} {i off : Nat} : (M.seg i off 8).take 8 = M.seg i off 8 := List.take_of_length_le (by unfold Me.seg; rw [List.length_take]; omega)
set_option maxRecDepth 8000 in
set_option maxHeartbeats 4000000 in
theorem refPlace_calls {B mb : Nat} {pv : Nat → Value} {M : Me} {w : World} (x : Se) (hx : x.Ok) (s : Mm B mb pv M w) (addr : Nat) (wr : Bool) (ha : addr < 2 ^ 64) :
    Calls Tryd.prog 45 #[.agg x.cells.toArray, .pointer (some ⟨mb, 0, none⟩), .int .u64 (addr : Int), .bool wr] w fun e w' => e = placeE (placeL M (x.r.getD 17 0) addr wr) ∧ Below w.heap.size w w' := by
  have B1 := Lib.hid (show Below w.heap.size w (w.alloc (.cells x.cells.toArray 26)) from (Below.refl _ _).alloc (Nat.le_refl _) _)
  have cB := (Blk.new w x.cells.toArray 26).cellAt (i := 17) (v := .int .u64 ((x.r.getD 17 0 : Nat) : Int)) (by simpa using hx.gr (i := 17) (by decide))
  have hbase := getD_lt hx 17
  obtain ⟨base, hbe⟩ : ∃ q, x.r.getD 17 0 = q := ⟨_, rfl⟩
  rw [hbe] at cB hbase ⊢
  have hq1 := quo256 ha
  have hq2 := quo256 hbase
  obtain ⟨pg, hpg⟩ : ∃ q, addr / 256 = q := ⟨_, rfl⟩
  obtain ⟨tb, htb⟩ : ∃ q, base / 256 = q := ⟨_, rfl⟩
  obtain ⟨of, hof⟩ : ∃ q, addr % 256 = q := ⟨_, rfl⟩
  rw [hpg] at hq1
  rw [htb] at hq2
  have hoi : (addr : Int) % 256 = (of : Int) := by omega
  have hof2 : (of : Int) ≤ 255 := by omega
  have hof3 : 0 ≤ (of : Int) := by omega
  have hpg0 : 0 ≤ (pg : Int) := by omega
  have hpg9 : (pg : Int) ≤ 72057594037927935 := by omega
  have htb0 : 0 ≤ (tb : Int) := by omega
  have htb9 : (tb : Int) ≤ 72057594037927935 := by omega
  have ha0 : 0 ≤ (addr : Int) := by omega
  have hb0 : 0 ≤ (base : Int) := by omega
  unfold placeL
  rw [hpg, hof, htb]
  generalize hxc : x.cells.toArray = XC at *
  by_cases h1 : 32 ≤ pg
  · rw [if_pos h1]
    have h1i : (32 : Int) ≤ (pg : Int) := by omega
    clear s cB hx hbe hpg hof h1 hq2 htb
    generalize (addr : Int) = ai at *
    go_enter Tryd.func45, Tryd.ntmps45
    go_wp2
    go_ret3
    exact ⟨rfl, B1.out⟩
  · rw [if_neg h1]
    have h1i : (pg : Int) ≤ 31 := by omega
    by_cases h2 : base = 0
    · subst h2
      rw [if_pos rfl]
      clear s hx hbe hpg hof h1 hq2 htb
      generalize (addr : Int) = ai at *
      go_enter Tryd.func45, Tryd.ntmps45
      go_wp2
      go_ret3
      exact ⟨rfl, B1.out⟩
    · rw [if_neg h2]
      have h2i : ((base : Int) == 0) = false := by simp; omega
      by_cases h3 : 32 ≤ tb
      · rw [if_pos h3]
        have h3i : (32 : Int) ≤ (tb : Int) := by omega
        clear s hx hbe hpg hof h1 htb h2 h3
        generalize (addr : Int) = ai at *
        generalize (base : Int) = bi at *
        go_enter Tryd.func45, Tryd.ntmps45
        go_wp2
        go_ret3
        exact ⟨rfl, B1.out⟩
      · rw [if_neg h3]
        have h3i : (tb : Int) ≤ 31 := by omega
        have LD := Lib.hid (refLoad_calls (s.below B1.out) tb (8 * pg) 8 (by omega) (by omega) (by omega))
        rw [show ∀ W, RefLoadP M tb (8 * pg) 8 W = fun e w' => w' = W ∧ ∃ v, e = .returned (.tuple #[v, .bool (decide (M.p tb ≠ []))]) ∧ Row W enc8 v (M.seg tb (8 * pg) 8) from fun _ => rfl] at LD
        have OF := Lib.hid (fun W v (h : Row W enc8 v (M.seg tb (8 * pg) 8)) => number_calls (M.seg tb (8 * pg) 8) v W h (s.seg_lt _ _ _) (by unfold Me.seg; rw [List.length_take]; omega))
        have e8 : ((8 * pg : Nat) : Int) = 8 * (pg : Int) := by omega
        rw [seg_take]
        have HX : Hid (ofB (M.seg tb (8 * pg) 8) < 2 ^ 64) := by have := ofB_take8 (l := M.seg tb (8 * pg) 8) (s.seg_lt _ _ _); rw [seg_take] at this; exact this
        rw [e8] at LD
        generalize ofB (M.seg tb (8 * pg) 8) = X at *
        clear s hx hbe hpg hof h1 htb h2 h3 e8
        by_cases h4 : M.p tb = []
        · rw [if_pos h4]
          rw [decide_eq_false (fun h => h h4)] at LD
          clear HX
          generalize (addr : Int) = ai at *
          generalize (base : Int) = bi at *
          go_enter Tryd.func45, Tryd.ntmps45
          go_upto_region 10 with (go_at_call 46; refine LD.out.mono ?_; rintro e w2 ⟨h2, v, rfl, r2⟩; subst h2)
          go_wp2
          go_ret3
          exact ⟨rfl, B1.out⟩
        · rw [if_neg h4]
          rw [decide_eq_true h4] at LD
          obtain ⟨x1, hx1⟩ : ∃ q, X % 2 = q := ⟨_, rfl⟩
          obtain ⟨x2, hx2⟩ : ∃ q, X / 2 % 2 = q := ⟨_, rfl⟩
          obtain ⟨x3, hx3⟩ : ∃ q, X / 256 = q := ⟨_, rfl⟩
          unfold wordPl
          rw [hx1, hx2, hx3]
          have E3 := quo256 HX.out
          rw [hx3] at E3
          have E1 : (X : Int) % 2 = (x1 : Int) := by omega
          have E4 : IntKind.u64.wrap ((X : Int).tdiv 2) = ((X / 2 : Nat) : Int) := by rw [Int.tdiv_eq_ediv_of_nonneg (by omega), wrap_u64]; have := HX.out; omega
          have E2 : ((X / 2 : Nat) : Int) % 2 = (x2 : Int) := by omega
          have X20 : 0 ≤ ((X / 2 : Nat) : Int) := by omega
          generalize ((X / 2 : Nat) : Int) = X2 at *
          have x30 : 0 ≤ (x3 : Int) := by omega
          have x39 : (x3 : Int) ≤ 72057594037927935 := by have := HX.out; omega
          have hX0 : 0 ≤ (X : Int) := by omega
          have hX9 : (X : Int) ≤ 18446744073709551615 := by have := HX.out; omega
          have b1 : x1 = 0 ∨ x1 = 1 := by omega
          have b2 : x2 = 0 ∨ x2 = 1 := by omega
          clear HX hx1 hx2 hx3
          obtain ⟨R, hR⟩ : ∃ R : Option (Nat × Nat), (if x1 = 0 ∨ (wr = true ∧ x2 = 0) ∨ 32 ≤ x3 then none else some (x3, of)) = R := ⟨_, rfl⟩
          rw [hR]
          have FT := Lib.hid (show (x1 = 0 ∨ (wr = true ∧ x2 = 0) ∨ 32 ≤ x3) → R = none from fun h => by rw [← hR, if_pos h])
          have FF := Lib.hid (show ¬ (x1 = 0 ∨ (wr = true ∧ x2 = 0) ∨ 32 ≤ x3) → R = some (x3, of) from fun h => by rw [← hR, if_neg h])
          clear hR
          generalize (addr : Int) = ai at *
          generalize (base : Int) = bi at *
          generalize (X : Int) = Xi at *
          go_enter Tryd.func45, Tryd.ntmps45
          go_upto_region 12 with (go_at_call 46; refine LD.out.mono ?_; rintro e w2 ⟨h2, v, rfl, r2⟩; subst h2; have OF2 := Lib.hid (OF.out _ _ r2); clear r2)
          clear LD OF
          go_upto_region 13 with (go_at_call 47; refine OF2.out.mono ?_; rintro e w3 ⟨rfl, rfl⟩)
          clear OF2
          rcases b1 with rfl | rfl
          · go_wp2
            all_goals go_ret3
            all_goals exact ⟨by rw [FT.out (by simp)]; rfl, B1.out⟩
          · by_cases h5 : wr = true ∧ x2 = 0
            · obtain ⟨rfl, rfl⟩ := h5
              go_wp2
              all_goals go_ret3
              all_goals exact ⟨by rw [FT.out (by simp)]; rfl, B1.out⟩
            · by_cases h6 : 32 ≤ x3
              · have h6i : (32 : Int) ≤ (x3 : Int) := by omega
                rcases b2 with rfl | rfl
                · have hw : wr = false := by
                    cases wr with
                    | false => rfl
                    | true => exact absurd ⟨rfl, rfl⟩ h5
                  subst hw
                  go_wp2
                  all_goals go_ret3
                  all_goals exact ⟨by rw [FT.out (by simp [h6])]; rfl, B1.out⟩
                · cases wr with
                  | false =>
                    go_wp2
                    all_goals go_ret3
                    all_goals exact ⟨by rw [FT.out (by simp [h6])]; rfl, B1.out⟩
                  | true =>
                    go_wp2
                    all_goals go_ret3
                    all_goals exact ⟨by rw [FT.out (by simp [h6])]; rfl, B1.out⟩
              · have h6i : (x3 : Int) ≤ 31 := by omega
                rcases b2 with rfl | rfl
                · have hw : wr = false := by
                    cases wr with
                    | false => rfl
                    | true => exact absurd ⟨rfl, rfl⟩ h5
                  subst hw
                  go_wp2
                  all_goals go_ret3
                  all_goals exact ⟨by rw [FF.out (by simp; omega)]; rfl, B1.out⟩
                · cases wr with
                  | false =>
                    go_wp2
                    all_goals go_ret3
                    all_goals exact ⟨by rw [FF.out (by simp; omega)]; rfl, B1.out⟩
                  | true =>
                    go_wp2
                    all_goals go_ret3
                    all_goals exact ⟨by rw [FF.out (by simp; omega)]; rfl, B1.out⟩
end Go.Proofs.YtjlodddlbgpcdaaDoor.Walks
