/- Walks through the functions of the statement, and the statement over them: each contract says what the call answers and that nothing else changes. -/
import Derived.Test.YtjlodddlbgpcdaaDoorProg
import Derived.Test.YtjlodddlbgpcdaaDoorBits
import Derived.Test.YtjlodddlbgpcdaaDoorHeap
import Derived.Test.YtjlodddlbgpcdaaDoorAid
import Derived.Test.YtjlodddlbgpcdaaDoorArr
import Derived.Test.YtjlodddlbgpcdaaDoorEql
import Derived.Test.YtjlodddlbgpcdaaDoorWalkBase
import Derived.Test.YtjlodddlbgpcdaaDoorWalkCode
import Derived.Test.YtjlodddlbgpcdaaDoorWalkSeat
import Derived.Test.YtjlodddlbgpcdaaDoorWalkRef
import Derived.Test.YtjlodddlbgpcdaaDoorWalkRefR
import Derived.Test.YtjlodddlbgpcdaaDoorWalkBus
import Derived.Test.YtjlodddlbgpcdaaDoorWalkBus2
import Derived.Test.YtjlodddlbgpcdaaDoorWalkRefP
import Derived.Lib.Hide
import Derived.WalkKit
import Derived.WalkSpells
import Derived.WalkLawsBesides
import Derived.Deep.QuietTactic
import Derived.BigQuiet
import Derived.Deep.RegionHeld3
import Derived.Deep.DeepCutAuto
import Derived.Deep.CutBlock
import Derived.Lib.SlBytesConst
import Derived.StillTailTactics
import Derived.RegionTactic
import Derived.Deep.RegionLaw
import Derived.Laws.BytesString
import Derived.Laws.MakeOwn
import Derived.Deep.AppendLies
import Derived.Laws.CopyOwn
import Derived.Maps.AppendAt
import Derived.Deep.Upon
import Derived.Deep.AppendSrc
import Derived.Shelf.Abstract
import Derived.Shelf.Spec.TrailingZeros
namespace Go.Proofs.YtjlodddlbgpcdaaDoor.Walks
set_option linter.unusedVariables false
set_option linter.unusedSimpArgs false
open Go.RowKit Go.Proofs.YtjlodddlbgpcdaaDoor.Bits Go.Proofs.YtjlodddlbgpcdaaDoor.Heap Go.Proofs.YtjlodddlbgpcdaaDoor.Aid Go.Proofs.YtjlodddlbgpcdaaDoor.Arr Go.Proofs.YtjlodddlbgpcdaaDoor.Eql

set_option maxRecDepth 8000 in
set_option maxHeartbeats 4000000 in
theorem refGet_calls {B mb : Nat} {pv : Nat → Value} {M : Me} {w : World} (x : Se) (hx : x.Ok) (s : Mm B mb pv M w) (addr n : Nat) (ha : addr < 2 ^ 64) (hn : n = 4 ∨ n = 8) :
    Calls Tryd.prog 26 #[.agg x.cells.toArray, .pointer (some ⟨mb, 0, none⟩), .int .u64 (addr : Int), .int .i64 (n : Int)] w fun e w' => e = loadE (loadL M (x.r.getD 17 0) addr n) ∧ Below w.heap.size w w' := by
  have B1 := Lib.hid (show Below w.heap.size w (w.alloc (.cells x.cells.toArray 26)) from (Below.refl _ _).alloc (Nat.le_refl _) _)
  have PC := Lib.hid (refPlace_calls x hx (s.below B1.out) addr false ha)
  have S := Lib.hid s
  have bx := Lib.hid (range_all (Blk.new w x.cells.toArray 26))
  have I26 := Lib.hid (info_se hx)
  unfold loadL
  have hai : 0 ≤ (addr : Int) := by omega
  obtain ⟨am, ham⟩ : ∃ q, addr % n = q := ⟨_, rfl⟩
  rw [ham]
  have BL := Lib.hid (fun W (hW : Below w.heap.size w W) p o (h : placeL M (x.r.getD 17 0) addr false = some (p, o)) (h0 : am = 0) => show Calls Tryd.prog 46 #[.pointer (some ⟨mb, 0, none⟩), .int .i64 (p : Int), .int .i64 (o : Int), .int .i64 (n : Int)] W (fun e w' => w' = W ∧ ∃ v, e = .returned (.tuple #[v, .bool (decide (M.p p ≠ []))]) ∧ Row W enc8 v (M.seg p o n)) from by
    obtain ⟨h1, h2, h3⟩ := placeL_lt h
    refine refLoad_calls (S.out.below hW) p o n h1 ?_ h2
    rcases hn with rfl | rfl <;> omega)
  have OF := Lib.hid (fun p o W v (h : Row W enc8 v (M.seg p o n)) => number_calls (M.seg p o n) v W h (S.out.seg_lt _ _ _) (by unfold Me.seg; rw [List.length_take]; rcases hn with rfl | rfl <;> omega))
  have OM := Lib.hid (fun p o (h : placeL M (x.r.getD 17 0) addr false = some (p, o)) => show (o : Int).tmod (n : Int) = (am : Int) ∧ (o : Int) % (n : Int) = (am : Int) ∧ 0 ≤ (o : Int) ∧ (o : Int) ≤ 255 from by
    obtain ⟨h1, h2, h3⟩ := placeL_lt h
    rw [Int.tmod_eq_emod_of_nonneg (by omega)]
    rcases hn with rfl | rfl <;> omega)
  have TK := Lib.hid (fun p o => show (M.seg p o n).take 8 = M.seg p o n from List.take_of_length_le (by unfold Me.seg; rw [List.length_take]; rcases hn with rfl | rfl <;> omega))
  generalize hpl : placeL M (x.r.getD 17 0) addr false = pl at *
  clear s hx hpl
  generalize x.cells = XC at *
  cases pl with
  | none =>
    clear BL OF OM TK ham hn
    simp only [placeE] at PC
    generalize (addr : Int) = ai at *
    generalize (n : Int) = ni at *
    go_enter Tryd.func26, Tryd.ntmps26
    go_upto_region 2 with (first
      | (refine wpList_load_mid rfl 26 (.tmp 4) rfl w.heap.size 0 rfl XC _ bx.out Tryd.underlying26 rfl I26.out ?_)
      | (go_at_call 45; refine PC.out.mono ?_; rintro e w2 ⟨rfl, b2⟩; have B2 := Lib.hid (B1.out.trans (b2.mono B1.out.size)); clear b2))
    go_wp2
    go_ret2
    exact ⟨rfl, B2.out⟩
  | some po =>
    obtain ⟨p, o⟩ := po
    simp only [placeE] at PC
    dsimp only
    obtain ⟨om1, om2, om3, om4⟩ := OM.out p o rfl
    rw [TK.out]
    clear OM TK
    by_cases h0 : am = 0
    · subst h0
      rw [if_neg (by simp)]
      have B2' := Lib.hid (fun W hW => BL.out W hW p o rfl rfl)
      have O2 := Lib.hid (OF.out p o)
      have XZ := Lib.hid (fun (h4 : M.p p = []) => show ofB (M.seg p o n) = 0 by rw [Me.seg_none h4]; rfl)
      clear BL OF ham
      generalize ofB (M.seg p o n) = X at *
      rcases Classical.em (M.p p = []) with h4 | h4
      · rw [if_pos h4]
        simp only [decide_eq_false (fun h : M.p p ≠ [] => h h4)] at B2'
        rcases hn with rfl | rfl
        all_goals
          generalize (addr : Int) = ai at *
          generalize (o : Int) = oi at *
          go_enter Tryd.func26, Tryd.ntmps26
          go_upto_region 4 with (first
            | (refine wpList_load_mid rfl 26 (.tmp 4) rfl w.heap.size 0 rfl XC _ bx.out Tryd.underlying26 rfl I26.out ?_)
            | (go_at_call 45; refine PC.out.mono ?_; rintro e w2 ⟨rfl, b2⟩; have B2 := Lib.hid (B1.out.trans (b2.mono B1.out.size)); clear b2))
          clear PC bx
          have L2 := Lib.hid (B2'.out _ B2.out)
          clear B2'
          go_upto_region 5 with (go_at_call 46; refine L2.out.mono ?_; rintro e w3 ⟨h3, v, rfl, r3⟩; subst h3; have O3 := Lib.hid (O2.out _ _ r3); clear r3)
          clear L2 O2
          go_wp2_with (go_at_call 47; refine O3.out.mono ?_; rintro e w4 ⟨rfl, h4'⟩; subst h4')
          go_ret2
          exact ⟨by rw [XZ.out h4]; rfl, B2.out⟩
      · rw [if_neg h4]
        simp only [decide_eq_true (show M.p p ≠ [] from h4)] at B2'
        clear XZ
        rcases hn with rfl | rfl
        all_goals
          generalize (addr : Int) = ai at *
          generalize (o : Int) = oi at *
          go_enter Tryd.func26, Tryd.ntmps26
          go_upto_region 4 with (first
            | (refine wpList_load_mid rfl 26 (.tmp 4) rfl w.heap.size 0 rfl XC _ bx.out Tryd.underlying26 rfl I26.out ?_)
            | (go_at_call 45; refine PC.out.mono ?_; rintro e w2 ⟨rfl, b2⟩; have B2 := Lib.hid (B1.out.trans (b2.mono B1.out.size)); clear b2))
          clear PC bx
          have L2 := Lib.hid (B2'.out _ B2.out)
          clear B2'
          go_upto_region 5 with (go_at_call 46; refine L2.out.mono ?_; rintro e w3 ⟨h3, v, rfl, r3⟩; subst h3; have O3 := Lib.hid (O2.out _ _ r3); clear r3)
          clear L2 O2
          go_wp2_with (go_at_call 47; refine O3.out.mono ?_; rintro e w4 ⟨rfl, h4'⟩; subst h4')
          go_ret2
          exact ⟨rfl, B2.out⟩
    · rw [if_pos h0]
      have h0i : ((am : Int) == 0) = false := by simp; omega
      clear BL OF
      rcases hn with rfl | rfl
      all_goals
        generalize (addr : Int) = ai at *
        generalize (o : Int) = oi at *
        go_enter Tryd.func26, Tryd.ntmps26
        go_upto_region 2 with (first
          | (refine wpList_load_mid rfl 26 (.tmp 4) rfl w.heap.size 0 rfl XC _ bx.out Tryd.underlying26 rfl I26.out ?_)
          | (go_at_call 45; refine PC.out.mono ?_; rintro e w2 ⟨rfl, b2⟩; have B2 := Lib.hid (B1.out.trans (b2.mono B1.out.size)); clear b2))
        go_wp2
        go_ret2
        exact ⟨rfl, B2.out⟩
def trappedE (x : Se) (c : Nat) : Ending := .returned (.tuple #[.agg x.cells.toArray, .int .u8 ((trapK x : Nat) : Int), .int .u64 (c : Int)])
theorem results_ctt {P : Program} {fn : Func} {p q r : Tmp} {ty : TypeId} (h : fn.results = #[.cell p ty, .tmp q, .tmp r]) (tmps : Array Value) (w : World) (g : Nat) (cs : List Value) (d : TypeDesc)
    (hp : tmps.getD p undef = .pointer (some ⟨g, 0, none⟩)) (hg : w.rangeAt g 0 cs)
    (hu : P.underlying ty = some d) (hd : d.isRow = true) (hi : (P.info? ty).map (·.size) = some cs.length) :
    (results fn tmps).run P w = .ok (.tuple #[.agg cs.toArray, tmps.getD q undef, tmps.getD r undef]) w := by
  have hp' : tmps[p]?.getD undef = .pointer (some ⟨g, 0, none⟩) := by simpa using hp
  simp [results, h, hp', asAddr, run_loadVar_mid w g 0 ty cs d hg hu hd hi]
set_option maxRecDepth 8000 in
set_option maxHeartbeats 4000000 in
theorem trapped_calls (x : Se) (hx : x.Ok) (c a : Nat) (hc : c < 2 ^ 64) (ha : a < 2 ^ 64) (w : World) :
    Calls Tryd.prog 25 #[.agg x.cells.toArray, .int .u64 (c : Int), .int .u64 (a : Int)] w fun e w' => e = trappedE (trapS x c a) c ∧ Below w.heap.size w w' := by
  have TC := Lib.hid (fun W => refTrap_calls x hx c a hc ha W)
  have OK := Lib.hid (trap_ok hx hc ha)
  have hz := zero_val
  have HZL := Lib.hid zero_ok.len
  have I0 := Lib.hid (info_se hx)
  have I1 := Lib.hid (info_se (trap_ok hx hc ha))
  have HO := Lib.hid (Se.one (trapS x c a))
  have XL := Lib.hid hx.len
  unfold trappedE trapK
  generalize hx2 : trapS x c a = x2 at *
  have X2L := Lib.hid OK.out.len
  have G23 := Lib.hid OK.out.g23
  generalize zeroSe.cells = ZC at *
  have hzs : ZC.toArray.size = 26 := by simpa using HZL.out
  have hzn : ¬ ZC.toArray = #[] := fun h => by rw [h] at hzs; simp at hzs
  generalize hc2 : x2.cells = C2 at *
  generalize x.cells = XC at *
  clear hx2 hc2
  have hst : ((x2.st : Int) == 2) = decide (x2.st = 2) := by
    rw [Bool.eq_iff_iff]; simp; omega
  generalize (c : Int) = ci at *
  generalize (a : Int) = ai at *
  obtain ⟨kd, hkd⟩ : ∃ kd : Nat, (if x2.st = 2 then 4 else 1) = kd := ⟨_, rfl⟩
  rw [hkd]
  have HK := Lib.hid hkd
  clear hkd
  have O1 := Lib.hid ((Own.newL (Below.refl w.heap.size w) XC (26 : Nat)).alloc (.cells ZC.toArray 26))
  have O2 := Lib.hid (Own.newL (Own.newL (Below.refl w.heap.size w) XC (26 : Nat)).bel ZC (26 : Nat))
  have hsz : (w.alloc (.cells XC.toArray 26)).heap.size = w.heap.size + 1 := by simp
  rw [hsz] at O2
  go_enter Tryd.func25, Tryd.ntmps25
  go_upto_region 1 with (fail)
  generalize hw1 : (w.alloc (.cells _ 26)).alloc _ = w1 at *
  clear hw1 hsz
  go_upto_region 2 with (first
    | (refine wpList_load_mid rfl 26 (.tmp 3) rfl w.heap.size 0 rfl XC _ (range_all O1.out.k) Tryd.underlying26 rfl I0.out ?_)
    | (go_at_call 44; refine (TC.out _).mono ?_; rintro e w3 ⟨rfl, b3⟩; have P2 := Lib.hid (((O2.out.step b3).alloc (.cells ZC.toArray 26)).setAllO (b' := w3.heap.size) (fun e => by have := (O2.out.step b3).lt; omega) (O2.out.step b3).bel.size 0 C2); have N9 := Lib.hid (Own.newL (O2.out.step b3).bel ZC (26 : Nat)); have M9 := Lib.hid (N9.out.setAll C2 (by rw [X2L.out, HZL.out])); clear b3)
    | (refine wpList_store_mid rfl 26 (.tmp 9) (.tmp 13) rfl w3.heap.size 0 C2.toArray rfl rfl (there_of_blk N9.out.k (by have := HZL.out; have := X2L.out; simp; omega)) (by simpa using I1.out) (by first | exact HO.out | exact all_oneCell_toArray HO.out) ?_))
  clear O1 O2 N9 TC
  generalize World.setCells _ _ _ _ = w4 at *
  generalize w3.heap.size = N at *
  have c23 := M9.out.cell G23.out
  have Q := Lib.hid (P2.out.setAll C2 (by rw [X2L.out, HZL.out]))
  by_cases h2 : x2.st = 2
  · rw [decide_eq_true h2] at hst
    go_wp2_with (first
      | (refine wpList_load_mid rfl 26 (.tmp 9) rfl N 0 rfl C2 _ (range_all M9.out.k) Tryd.underlying26 rfl I1.out ?_)
      | (refine wpList_store_mid rfl 26 (.tmp 6) (.tmp 17) rfl (w.heap.size + 1) 0 C2.toArray rfl rfl (there_of_blk P2.out.k (by have := HZL.out; have := X2L.out; simp; omega)) (by simpa using I1.out) (by first | exact HO.out | exact all_oneCell_toArray HO.out) ?_))
    refine bodyPost_ret (v := .tuple #[.agg C2.toArray, .int .u8 4, .int .u64 ci]) (results_ctt Tryd.results25 _ _ (w.heap.size + 1) C2 _ rfl (range_all Q.out.k) Tryd.underlying26 rfl I1.out) rfl ⟨by rw [← HK.out, if_pos h2]; rfl, Q.out.bel⟩
  · rw [decide_eq_false h2] at hst
    go_wp2_with (first
      | (refine wpList_load_mid rfl 26 (.tmp 9) rfl N 0 rfl C2 _ (range_all M9.out.k) Tryd.underlying26 rfl I1.out ?_)
      | (refine wpList_store_mid rfl 26 (.tmp 6) (.tmp 19) rfl (w.heap.size + 1) 0 C2.toArray rfl rfl (there_of_blk P2.out.k (by have := HZL.out; have := X2L.out; simp; omega)) (by simpa using I1.out) (by first | exact HO.out | exact all_oneCell_toArray HO.out) ?_))
    refine bodyPost_ret (v := .tuple #[.agg C2.toArray, .int .u8 1, .int .u64 ci]) (results_ctt Tryd.results25 _ _ (w.heap.size + 1) C2 _ rfl (range_all Q.out.k) Tryd.underlying26 rfl I1.out) rfl ⟨by rw [← HK.out, if_neg h2]; rfl, Q.out.bel⟩
end Go.Proofs.YtjlodddlbgpcdaaDoor.Walks
