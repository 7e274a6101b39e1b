/- Walks through the functions of the statement, and the statement over them: each contract says what the call answers and that nothing else changes. -/
import Derived.Test.YtjlodddlbgpcdaaDoorProg
import Derived.Test.YtjlodddlbgpcdaaDoorBits
import Derived.Test.YtjlodddlbgpcdaaDoorHeap
import Derived.Test.YtjlodddlbgpcdaaDoorAid
import Derived.Test.YtjlodddlbgpcdaaDoorArr
import Derived.Test.YtjlodddlbgpcdaaDoorEql
import Derived.Test.YtjlodddlbgpcdaaDoorWalkBase
import Derived.Test.YtjlodddlbgpcdaaDoorWalkCode
import Derived.Test.YtjlodddlbgpcdaaDoorWalkSeat
import Derived.Test.YtjlodddlbgpcdaaDoorWalkRef
import Derived.Test.YtjlodddlbgpcdaaDoorWalkRefR
import Derived.Test.YtjlodddlbgpcdaaDoorWalkBus

import Derived.Lib.Hide
import Derived.WalkKit
import Derived.WalkSpells
import Derived.WalkLawsBesides
import Derived.Deep.QuietTactic
import Derived.BigQuiet
import Derived.Deep.RegionHeld3
import Derived.Deep.DeepCutAuto
import Derived.Deep.CutBlock
import Derived.Lib.SlBytesConst
import Derived.StillTailTactics
import Derived.RegionTactic
import Derived.Deep.RegionLaw
import Derived.Laws.BytesString
import Derived.Laws.MakeOwn
import Derived.Deep.AppendLies
import Derived.Laws.CopyOwn
import Derived.Maps.AppendAt
import Derived.Deep.Upon
import Derived.Deep.AppendSrc
import Derived.Shelf.Abstract
import Derived.Shelf.Spec.TrailingZeros
namespace Go.Proofs.YtjlodddlbgpcdaaDoor.Walks
set_option linter.unusedVariables false
set_option linter.unusedSimpArgs false
open Go.RowKit Go.Proofs.YtjlodddlbgpcdaaDoor.Bits Go.Proofs.YtjlodddlbgpcdaaDoor.Heap Go.Proofs.YtjlodddlbgpcdaaDoor.Aid Go.Proofs.YtjlodddlbgpcdaaDoor.Arr Go.Proofs.YtjlodddlbgpcdaaDoor.Eql

/-- Is this call through an interface ahead, at a step of a region that draws? -/
theorem invoke_gate {P : Program} {ops : Array Oper} {a : Act} {w : World} {K : Act → World → Prop} {Q : Exit → Act → World → Prop} {E : Prop} {dst : Option Tmp} {t : TypeId} {pos : String} {aft : Array Edge} {g : Option (Nat × Bool)} {args : Array Operand} {ats : Array TypeId} (n : Tmp) (f : String)
    (h : if Region.wanted ⟨dst, .call { callee := .invoke (.tmp n) f, args := args, argTypes := ats }, t, pos, aft, g⟩ (yielded ops a.tmps) = true then Oper.wp P ⟨dst, .call { callee := .invoke (.tmp n) f, args := args, argTypes := ats }, t, pos, aft, g⟩ a w K Q else E) :
    if Region.wanted ⟨dst, .call { callee := .invoke (.tmp n) f, args := args, argTypes := ats }, t, pos, aft, g⟩ (yielded ops a.tmps) = true then Oper.wp P ⟨dst, .call { callee := .invoke (.tmp n) f, args := args, argTypes := ats }, t, pos, aft, g⟩ a w K Q else E := h
/-- The pages' blocks. -/
def PG (pv : Nat → Value) (g : Nat) : Prop := ∃ i, i < 32 ∧ (pv i).ownBlock = some g
/-- The memory behind a word that is written; none: it can't be. -/
def saveL (M : Me) (base addr v : Nat) : Option Me :=
  match placeL M base addr true with
  | none => none
  | some (p, o) => if addr % 8 ≠ 0 then none else if M.p p = [] ∨ M.w p = false then none else some (M.put p o (leB 8 v))
def SaveR (B mb : Nat) (pv : Nat → Value) (M : Me) (R : Option Me) (w : World) (e : Ending) (w' : World) : Prop := e = .returned (.bool R.isSome) ∧ Mm B mb pv (R.getD M) w' ∧ Keep (PG pv) w w'
theorem SaveR.no {B mb : Nat} {pv : Nat → Value} {M : Me} {w w' : World} (s : Mm B mb pv M w) (h : Below w.heap.size w w') : SaveR B mb pv M none w (.returned (.bool false)) w' := ⟨rfl, s.below h, Keep.of_below h⟩
set_option maxRecDepth 8000 in
set_option maxHeartbeats 4000000 in
theorem save_calls {B sb mb : Nat} {pv : Nat → Value} {M : Me} {w : World} (x : Se) (hx : x.Ok) (hb : Blk w sb x.cells 26) (s : Mm B mb pv M w) (time me : Int) (addr v : Nat) (ha : addr < 2 ^ 64) (hv : v < 2 ^ 64) :
    Calls Tryd.prog 37 #[.agg (cpuA sb mb time me), .int .u64 (addr : Int), .int .u64 (v : Int)] w (SaveR B mb pv M (saveL M (x.r.getD 17 0) addr v) w) := by
  have ES := enter_save
  have mS := fun W => reach_save W mb
  have B1 := Lib.hid (show Below w.heap.size w (w.alloc (.cells (cpuA sb mb time me) 67)) from (Below.refl _ _).alloc (Nat.le_refl _) _)
  have PC := Lib.hid (place_calls x hx (hb.below B1.out hb.lt) (s.below B1.out) time me addr true ha)
  have hbx := Blk.new w (cpuA sb mb time me) 67
  have bx := Lib.hid (fun W (h : Below (w.alloc (.cells (cpuA sb mb time me) 67)).heap.size (w.alloc (.cells (cpuA sb mb time me) 67)) W) => (hbx.below h (by simp)).cellAt (i := 1) rfl)
  have S := Lib.hid s
  unfold saveL
  have hai : 0 ≤ (addr : Int) := by omega
  obtain ⟨am, ham⟩ : ∃ q, addr % 8 = q := ⟨_, rfl⟩
  rw [ham]
  have hm1 : (addr : Int) % 8 = (am : Int) := by omega
  have PL := Lib.hid (fun p o (h : placeL M (x.r.getD 17 0) addr true = some (p, o)) => placeL_lt h)
  generalize hpl : placeL M (x.r.getD 17 0) addr true = pl at *
  clear hb s hx hbx hpl
  unfold cpuA at *
  cases pl with
  | none =>
    clear PL ham ES mS bx hv
    have FIN := Lib.hid (fun W (h : Below w.heap.size w W) => SaveR.no S.out h)
    simp only [placeE] at PC
    generalize (addr : Int) = ai at *
    generalize (v : Int) = vi at *
    go_enter Tryd.func37, Tryd.ntmps37
    go_upto_region 2 with (go_at_call 31; refine PC.out.mono ?_; rintro e w2 ⟨rfl, b2⟩; have B2 := Lib.hid (B1.out.trans (b2.mono B1.out.size)); clear b2)
    clear PC
    go_quiet (fail)
    go_wp2
    go_ret
    exact FIN.out _ (below_drewN B2.out _)
  | some po =>
    obtain ⟨p, o⟩ := po
    obtain ⟨p1, p2, p3⟩ := PL.out p o rfl
    simp only [placeE] at PC
    have HR := Lib.hid (show (match (some (p, o) : Option (Nat × Nat)) with | none => none | some (p, o) => if am ≠ 0 then none else if M.p p = [] ∨ M.w p = false then none else some (M.put p o (leB 8 v))) = if am ≠ 0 then none else if M.p p = [] ∨ M.w p = false then none else some (M.put p o (leB 8 v)) from rfl)
    rw [HR.out]
    clear HR PL
    by_cases h0 : am = 0
    · subst h0
      rw [if_neg (by simp)]
      have hm2 : (addr : Int) % 8 = 0 := by omega
      have hm3 : (addr : Int).tmod 8 = 0 := by rw [Int.tmod_eq_emod_of_nonneg hai]; exact hm2
      clear hm1
      have ho8 : o + 8 ≤ 256 := by omega
      have BY := Lib.hid (fun W => bytes_calls v W)
      have LL := Lib.hid (leB_length 8 v)
      have LT := Lib.hid (leB_lt 8 v)
      by_cases h4 : M.p p = [] ∨ M.w p = false
      · rw [if_pos h4]
        have SV := Lib.hid (fun W (h : Below w.heap.size w W) a => busSave_bad (S.out.below h) p o 8 (some a) 8 p1 ho8 h4)
        have FIN := Lib.hid (fun W (h : Below w.heap.size w W) => SaveR.no S.out h)
        clear ham hv LL LT h4 p2 p3 ho8
        generalize (addr : Int) = ai at *
        generalize (v : Int) = vi at *
        generalize ((leB 8 v).map enc8).toArray = C8 at *
        go_enter Tryd.func37, Tryd.ntmps37
        go_upto_region 2 with (go_at_call 31; refine PC.out.mono ?_; rintro e w2 ⟨rfl, b2⟩; have c2 := bx.out _ b2; have B2 := Lib.hid (B1.out.trans (b2.mono B1.out.size)); clear b2)
        clear PC
        have CX := Lib.hid (fun W W' (hc : W.cell? ⟨w.heap.size, 1, none⟩ = some (.iface 54 (.agg #[.pointer (some ⟨mb, 0, none⟩)]))) (h : Below W.heap.size W W') => show W'.cell? ⟨w.heap.size, 1, none⟩ = some (.iface 54 (.agg #[.pointer (some ⟨mb, 0, none⟩)])) from
          (h.cell (World.block_lt_of_cell? W _ hc)).trans hc)
        have B3 := Lib.hid (below_drewN B2.out 1)
        have hrem : ∀ W, (binOp .rem 22 (.int .u64 ai) (.int .u64 8)).run Tryd.prog W = .ok (.int .u64 0) W := fun W => by simp [binOp, go_sem, hm3]
        go_region_held3 (fun w' => w'.cell? ⟨w.heap.size, 1, none⟩ = some (.iface 54 (.agg #[.pointer (some ⟨mb, 0, none⟩)])))
          (first | assumption | exact c2)
          (first
            | (go_at_call 50; refine (BY.out _).mono ?_; rintro e w5 ⟨rfl, h5⟩; have B5 : Hid (Below w.heap.size w w5) := (by rw [h5]; exact B3.out.alloc B3.out.size _); have cX := CX.out _ w5 c2 (by rw [h5]; exact (below_drewN (Below.refl _ _) 1).alloc (Nat.le_refl _) _); clear h5)
            | (go_at_fn 70; refine (SV.out _ B5.out _).mono ?_; rintro e w6 ⟨rfl, b6⟩; have cY := CX.out _ w6 cX b6; have B6 := Lib.hid (B5.out.trans (b6.mono B5.out.size)); clear b6))
        all_goals
          go_wp2
          go_ret
          exact FIN.out _ B6.out
      · rw [if_neg h4]
        have hpl : (M.p p).length = 256 := (S.out.two p1).resolve_left (fun e => h4 (.inl e))
        have hpw : M.w p = true := by
          cases hq : M.w p with
          | true => rfl
          | false => exact absurd (.inr hq) h4
        have PLT := Lib.hid (fun g (e : (pv p).ownBlock = some g) => (World.ownsRow.lt (S.out.r p p1) g e).2)
        have SV := Lib.hid (fun W (hW : Below w.heap.size w W) g (hg : w.heap.size ≤ g) (hB : Blk W g ((leB 8 v).map enc8) 5) => by
          have h := busSave_ok (S.out.below hW) p o (leB 8 v) ⟨g, 0, Option.none⟩ 8 p1 (by rw [LL.out]; decide) (by rw [LL.out]; exact ho8) hpl hpw LT.out (fun wx k j hj => by
            rw [add_blk]
            refine (hB.keep k (fun e => by have := PLT.out g e; omega)).cellAt ?_
            rw [List.getElem?_map, List.getD_eq_getElem?_getD, List.getElem?_eq_getElem hj]
            rfl)
          rw [LL.out] at h
          exact h)
        have FIN := Lib.hid (fun W5 W (hW : Below w.heap.size w W5) (h : SaveP B mb pv M p o (leB 8 v) W5 W) => show SaveR B mb pv M (some (M.put p o (leB 8 v))) w (.returned (.bool true)) W from ⟨rfl, h.1, (Keep.of_below hW).trans (h.2.mono (fun g _ e => ⟨p, p1, e⟩))⟩)
        generalize hl8 : (leB 8 v).map enc8 = L8 at *
        clear ham hv LL LT h4 p2 p3 ho8 hpl hpw hl8
        generalize (addr : Int) = ai at *
        generalize (v : Int) = vi at *
        go_enter Tryd.func37, Tryd.ntmps37
        go_upto_region 2 with (go_at_call 31; refine PC.out.mono ?_; rintro e w2 ⟨rfl, b2⟩; have c2 := bx.out _ b2; have B2 := Lib.hid (B1.out.trans (b2.mono B1.out.size)); clear b2)
        clear PC
        have CX := Lib.hid (fun W W' (hc : W.cell? ⟨w.heap.size, 1, none⟩ = some (.iface 54 (.agg #[.pointer (some ⟨mb, 0, none⟩)]))) (h : Below W.heap.size W W') => show W'.cell? ⟨w.heap.size, 1, none⟩ = some (.iface 54 (.agg #[.pointer (some ⟨mb, 0, none⟩)])) from
          (h.cell (World.block_lt_of_cell? W _ hc)).trans hc)
        have CY := Lib.hid (fun W W' (hc : W.cell? ⟨w.heap.size, 1, none⟩ = some (.iface 54 (.agg #[.pointer (some ⟨mb, 0, none⟩)]))) (h : Keep (fun g => (pv p).ownBlock = some g) W W') => show W'.cell? ⟨w.heap.size, 1, none⟩ = some (.iface 54 (.agg #[.pointer (some ⟨mb, 0, none⟩)])) from
          (World.cell?_of_block (h.block w.heap.size (World.block_lt_of_cell? W _ hc) (fun e => by have := PLT.out _ e; omega))).trans hc)
        have B3 := Lib.hid (below_drewN B2.out 1)
        have hrem : ∀ W, (binOp .rem 22 (.int .u64 ai) (.int .u64 8)).run Tryd.prog W = .ok (.int .u64 0) W := fun W => by simp [binOp, go_sem, hm3]
        go_region_held3 (fun w' => w'.cell? ⟨w.heap.size, 1, none⟩ = some (.iface 54 (.agg #[.pointer (some ⟨mb, 0, none⟩)])))
          (first | assumption | exact c2)
          (first
            | (go_at_call 50; refine (BY.out _).mono ?_; rintro e w5 ⟨rfl, h5⟩; have B5 : Hid (Below w.heap.size w w5) := (by rw [h5]; exact B3.out.alloc B3.out.size _); have K5 : Hid (Blk w5 (w2.drewN 1).heap.size L8 5) := (by rw [h5]; exact Blk.new (w2.drewN 1) L8.toArray _); have cX := CX.out _ w5 c2 (by rw [h5]; exact (below_drewN (Below.refl _ _) 1).alloc (Nat.le_refl _) _); clear h5)
            | (go_at_fn 70; refine (SV.out _ B5.out _ B3.out.size K5.out).mono ?_; rintro e w6 ⟨rfl, b6⟩; have cY := CY.out _ w6 cX b6.2; have B6 := Lib.hid (FIN.out _ _ B5.out b6); clear b6))
        all_goals
          go_wp2
          go_ret
          exact B6.out
    · rw [if_pos h0]
      have h0i : ((am : Int) == 0) = false := by simp; omega
      clear ham ES mS bx hv
      have FIN := Lib.hid (fun W (h : Below w.heap.size w W) => SaveR.no S.out h)
      generalize (addr : Int) = ai at *
      generalize (v : Int) = vi at *
      go_enter Tryd.func37, Tryd.ntmps37
      go_upto_region 2 with (go_at_call 31; refine PC.out.mono ?_; rintro e w2 ⟨rfl, b2⟩; have B2 := Lib.hid (B1.out.trans (b2.mono B1.out.size)); clear b2)
      clear PC
      go_quiet (fail)
      go_wp2
      go_ret
      exact FIN.out _ (below_drewN B2.out _)
theorem Upd.pre {b : Nat} {cs : List Value} {t : TypeId} {w w1 w2 : World} (h : Below w.heap.size w w1) (u : Upd b cs t w1 w2) : Upd b cs t w w2 := ⟨(Keep.of_below h).trans u.k, u.c⟩
/-- A store into a block that was made since. -/
theorem Upd.setNew {b b' : Nat} {cs : List Value} {t : TypeId} {w w1 : World} (u : Upd b cs t w w1) (h : w.heap.size ≤ b') (hb : b < w.heap.size) (o : Nat) (vs : List Value) : Upd b cs t w (w1.setCells b' o vs) :=
  ⟨keep_setCells u.k (fun h2 => by omega) o vs, blk_setOther u.c (by omega) o vs⟩
def exitA (k n : Int) : Array Value := #[.int .u8 k, .int .u64 n]
theorem size2x : (Tryd.prog.info? 50).map (·.size) = some 2 := by kernel_rfl
def trapK (x : Se) : Nat := if x.st = 2 then 4 else 1
set_option maxRecDepth 8000 in
set_option maxHeartbeats 4000000 in
theorem ctrap_calls {sb : Nat} {w : World} (mb : Nat) (x : Se) (hx : x.Ok) (hb : Blk w sb x.cells 26) (time me : Int) (c a : Nat) (hc : c < 2 ^ 64) (ha : a < 2 ^ 64) :
    Calls Tryd.prog 21 #[.agg (cpuA sb mb time me), .int .u64 (c : Int), .int .u64 (a : Int)] w fun e w' => e = .returned (.agg (exitA (trapK (trapS x c a) : Nat) (c : Int))) ∧ Upd sb (trapS x c a).cells 26 w w' := by
  have hsb := hb.lt
  have B1 := Lib.hid (show Below w.heap.size w ((w.alloc (.cells (cpuA sb mb time me) 67)).alloc (.cells (exitA 0 0) 50)) from ((Below.refl _ _).alloc (Nat.le_refl _) _).alloc (by simp) _)
  have T := Lib.hid (trap_calls x hx c a hc ha sb _ (hb.below B1.out hsb))
  have k1 := (Blk.new w (cpuA sb mb time me) 67).alloc (.cells (exitA 0 0) 50)
  have k2 := Blk.new (w.alloc (.cells (cpuA sb mb time me) 67)) (exitA 0 0) 50
  have hs2 : (w.alloc (.cells (cpuA sb mb time me) 67)).heap.size = w.heap.size + 1 := by simp
  rw [hs2] at k2
  have K1 := Lib.hid k1
  have K2 := Lib.hid k2
  have OK := Lib.hid (trap_ok hx hc ha)
  have C0 := Lib.hid k1
  clear k1 k2 hs2
  unfold trapK
  generalize hx2 : trapS x c a = x2 at *
  have G23 := Lib.hid OK.out.g23
  unfold cpuA exitA at *
  generalize (c : Int) = ci at *
  generalize (a : Int) = ai at *
  have hst : ((x2.st : Int) == 2) = decide (x2.st = 2) := by
    rw [Bool.eq_iff_iff]; simp; omega
  obtain ⟨kd, hkd⟩ : ∃ kd : Nat, (if x2.st = 2 then 4 else 1) = kd := ⟨_, rfl⟩
  rw [hkd]
  have HK := Lib.hid hkd
  clear hkd
  go_enter Tryd.func21, Tryd.ntmps21
  go_upto_region 1 with (fail)
  generalize hw1 : (w.alloc (.cells _ 67)).alloc _ = w1 at *
  have c0 := K1.out.cellAt (i := 0) rfl
  go_upto_region 2 with (go_at_call 30; refine T.out.mono ?_; rintro e w2 ⟨rfl, u2⟩; have U2 := Lib.hid u2; have J1 := Lib.hid (u2.blk K1.out (by omega)); have J2 := Lib.hid (u2.blk K2.out (by omega)); clear u2)
  clear T c0 hw1 K1 K2 C0
  have c0 := J1.out.cellAt (i := 0) rfl
  have c23 := U2.out.c.cellAt G23.out
  have d0 := J2.out.cellAt (i := 0) rfl
  have d1 := J2.out.cellAt (i := 1) rfl
  have g0 := J2.out.unfrozen 0
  have g1 := J2.out.unfrozen 1
  have E2 := Lib.hid (fun (k n : Int) => (J2.out.set 0 (.int .u8 k)).set 1 (.int .u64 n))
  have F2 := Lib.hid (fun (v1 v2 : Value) => show Upd sb x2.cells 26 w ((w2.setCell ⟨w.heap.size + 1, 0, none⟩ v1).setCell ⟨w.heap.size + 1, 1, none⟩ v2) from by
    have u := Upd.pre B1.out U2.out
    exact ⟨(u.k.setCell (p := ⟨w.heap.size + 1, 0, none⟩) (fun h => by exact absurd h (by show ¬ w.heap.size + 1 < w.heap.size; omega)) _).setCell (p := ⟨w.heap.size + 1, 1, none⟩) (fun h => by exact absurd h (by show ¬ w.heap.size + 1 < w.heap.size; omega)) _, (u.c.other (show w.heap.size + 1 ≠ sb by omega) _).other (show w.heap.size + 1 ≠ sb by omega) _⟩)
  by_cases h2 : x2.st = 2
  · rw [decide_eq_true h2] at hst
    go_wp2
    refine bodyPost_ret (v := .agg #[.int .u8 4, .int .u64 ci]) (results_cell_row Tryd.results21 _ _ (w.heap.size + 1) _ #[.int .u8 4, .int .u64 ci] _ _ rfl (E2.out 4 ci) Tryd.underlying50 rfl (by simpa using size2x)) rfl ⟨by rw [← HK.out, if_pos h2]; rfl, F2.out _ _⟩
  · rw [decide_eq_false h2] at hst
    go_wp2
    refine bodyPost_ret (v := .agg #[.int .u8 1, .int .u64 ci]) (results_cell_row Tryd.results21 _ _ (w.heap.size + 1) _ #[.int .u8 1, .int .u64 ci] _ _ rfl (E2.out 1 ci) Tryd.underlying50 rfl (by simpa using size2x)) rfl ⟨by rw [← HK.out, if_neg h2]; rfl, F2.out _ _⟩
end Go.Proofs.YtjlodddlbgpcdaaDoor.Walks
