/- Walks through the functions of the statement, and the statement over them: each contract says what the call answers and that nothing else changes. -/
import Derived.Test.YtjlodddlbgpcdaaDoorProg
import Derived.Test.YtjlodddlbgpcdaaDoorBits
import Derived.Test.YtjlodddlbgpcdaaDoorHeap
import Derived.Test.YtjlodddlbgpcdaaDoorAid
import Derived.Test.YtjlodddlbgpcdaaDoorArr
import Derived.Test.YtjlodddlbgpcdaaDoorEql
import Derived.Test.YtjlodddlbgpcdaaDoorWalkBase
import Derived.Test.YtjlodddlbgpcdaaDoorWalkCode
import Derived.Test.YtjlodddlbgpcdaaDoorWalkSeat
import Derived.Test.YtjlodddlbgpcdaaDoorWalkRef
import Derived.Test.YtjlodddlbgpcdaaDoorWalkRefR
import Derived.Test.YtjlodddlbgpcdaaDoorWalkBus
import Derived.Test.YtjlodddlbgpcdaaDoorWalkBus2
import Derived.Test.YtjlodddlbgpcdaaDoorWalkRefP
import Derived.Test.YtjlodddlbgpcdaaDoorWalkRefG
import Derived.Test.YtjlodddlbgpcdaaDoorWalkRefL
import Derived.Test.YtjlodddlbgpcdaaDoorWalkDo
import Derived.Lib.Hide
import Derived.WalkKit
import Derived.WalkSpells
import Derived.WalkLawsBesides
import Derived.Deep.QuietTactic
import Derived.BigQuiet
import Derived.Deep.RegionHeld3
import Derived.Deep.DeepCutAuto
import Derived.Deep.CutBlock
import Derived.Lib.SlBytesConst
import Derived.StillTailTactics
import Derived.RegionTactic
import Derived.Deep.RegionLaw
import Derived.Laws.BytesString
import Derived.Laws.MakeOwn
import Derived.Deep.AppendLies
import Derived.Laws.CopyOwn
import Derived.Maps.AppendAt
import Derived.Deep.Upon
import Derived.Deep.AppendSrc
import Derived.Shelf.Abstract
import Derived.Shelf.Spec.TrailingZeros
namespace Go.Proofs.YtjlodddlbgpcdaaDoor.Walks
set_option linter.unusedVariables false
set_option linter.unusedSimpArgs false
open Go.RowKit Go.Proofs.YtjlodddlbgpcdaaDoor.Bits Go.Proofs.YtjlodddlbgpcdaaDoor.Heap Go.Proofs.YtjlodddlbgpcdaaDoor.Aid Go.Proofs.YtjlodddlbgpcdaaDoor.Arr Go.Proofs.YtjlodddlbgpcdaaDoor.Eql

theorem wpStill_load_mid {P : Program} {ops : Array Oper} {w : World} {Q : Act → Prop} {rest : List Oper} {op : Oper} {a : Act} (hgd : op.guard = none) (ty : TypeId) (x : Operand) (ho : op.op = .load ty x)
    (b o : Nat) (hx : a.eval x = .pointer (some ⟨b, o, none⟩)) (cs : List Value) (d : TypeDesc) (hc : w.rangeAt b o cs)
    (hu : P.underlying ty = some d) (hd : d.isRow = true) (hi : (P.info? ty).map (·.size) = some cs.length)
    (h : wpStill P ops w Q rest (a.put op.dst (.agg cs.toArray))) : wpStill P ops w Q (op :: rest) a := by
  show if Region.wanted op (yielded ops a.tmps) then op.still P a w (wpStill P ops w Q rest) else _
  have hw : Region.wanted op (yielded ops a.tmps) = true := by simp [Region.wanted, hgd]
  rw [if_pos hw]
  unfold Oper.still
  have hr : (execOp a.eval op).run P w = .ok (.value (.agg cs.toArray)) w := by
    unfold execOp
    simp only [ho, hx, Instr.loadAt, Instr.sureAddr, Sem.run_bind, Sem.run_pure, Result.andThen_ok, run_loadVar_mid w b o ty cs d hc hu hd hi]
  rw [hr]
  exact ⟨rfl, h⟩
set_option maxRecDepth 8000 in
set_option maxHeartbeats 8000000 in
theorem do_lu {B sb mb : Nat} {pv : Nat → Value} {M : Me} {w : World} (x : Se) (hx : x.Ok) (hb : Blk w sb x.cells 26) (s : Mm B mb pv M w) (ap : Apt sb mb pv) (time me : Int) (a b d : Nat) (n : Int) (ha : a < 16) (hb16 : b < 16) (hn : -32768 ≤ n ∧ n ≤ 32767) :
    Calls Tryd.prog 24 #[.agg (cpuA sb mb time me), .agg (opA 2 a b d n)] w (DoP B sb mb pv ⟨(x.reg a (wth (x.r.getD a 0) 16 48 (kN n))).reg 16 (nxN x), M, 0, 0⟩ w) := by
  have D := Lib.hid (D0.new time me (opA 2 a b d n) hb s)
  have HPG := Lib.hid (fun g (h : PG pv g) => PG.lt s h)
  have hmb : mb < w.heap.size := s.c.lt
  have hwn : IntKind.i64.wrap n = n := by rw [IntKind.wrap_i64]; omega
  have hwk := kN_wrap n
  have hwx := nx_wrap x
  have KL := Lib.hid (kN_lt n)
  have NL := Lib.hid (nx_lt x)
  have hai : (a : Int) ≤ 15 := by omega
  have hbi : (b : Int) ≤ 15 := by omega
  have hai0 : 0 ≤ (a : Int) := by omega
  have hbi0 : 0 ≤ (b : Int) := by omega
  have hai1 : (a : Int) < 16 := by omega
  have hai2 : ¬ (a : Int) < 0 := by omega
  have hbi2 : ¬ (b : Int) < 0 := by omega
  have hbi1 : (b : Int) < 16 := by omega
  have G16 := Lib.hid (hx.gr (i := 16) (by decide))
  have GA := Lib.hid (hx.gr (i := a) (by omega))
  have GB := Lib.hid (hx.gr (i := b) (by omega))
  have HVA := Lib.hid (getD_lt hx a)
  have HVB := Lib.hid (getD_lt hx b)
  have HPC := Lib.hid (getD_lt hx 16)
  have WC := Lib.hid (fun W => with_calls (getD_lt hx a) (kN_lt n) 16 48 W)
  have WL := Lib.hid (wth_lt (getD_lt hx a) 16 48 (kN n))
  generalize wth (x.r.getD a 0) 16 48 (kN n) = wv at *
  clear hb s
  generalize kN n = kk at *
  generalize nxN x = nx at *
  generalize x.r.getD 16 0 = pc at *
  generalize x.r.getD a 0 = va at *
  generalize x.r.getD b 0 = vb at *
  unfold cpuA opA exitA at *
  go_enter Tryd.func24, Tryd.ntmps24
  go_upto_region 1 with (fail)
  generalize hw1 : ((w.alloc (.cells _ 67)).alloc _).alloc _ = w1 at *
  clear hw1
  have cc0 := D.out.c.cellAt (i := 0) rfl
  have oc0 := D.out.o.cellAt (i := 0) rfl
  have oc1 := D.out.o.cellAt (i := 1) rfl
  have oc2 := D.out.o.cellAt (i := 2) rfl
  have oc4 := D.out.o.cellAt (i := 4) rfl
  have s16 := D.out.s.cellAt G16.out
  have sA := D.out.s.cellAt GA.out
  have sB := D.out.s.cellAt GB.out
  have f16 := D.out.s.unfrozen 16
  have fA := D.out.s.unfrozen a
  go_upto_region 4 with (fail)
  go_quiet (fail)
  have D3 := Lib.hid (D.out.drewN nq)
  clear cc0 oc0 oc1 oc2 oc4 s16 sA sB f16 fA D
  generalize w1.drewN nq = w3 at *
  have cc0 := D3.out.c.cellAt (i := 0) rfl
  have oc0 := D3.out.o.cellAt (i := 0) rfl
  have oc1 := D3.out.o.cellAt (i := 1) rfl
  have s16 := D3.out.s.cellAt G16.out
  have sA := D3.out.s.cellAt GA.out
  have f16 := D3.out.s.unfrozen 16
  have fA := D3.out.s.unfrozen a
  go_upto_region 11 with (fail)
  have D4 := Lib.hid (D3.out.drewN 1)
  clear D3
  go_region_law (first
    | ((with_reducible refine call_gate 36 ?_); go_simp; go_at_call 36; refine (WC.out _).mono ?_; rintro e w5 ⟨rfl, m5, h5⟩; have D5 : Hid (D0 B sb mb pv x M time me _ w w5) := (by rw [h5]; exact D4.out.drewN m5); have oc1' := D5.out.o.cellAt (i := 1) rfl; have sA' := D5.out.s.cellAt GA.out; have fA' := D5.out.s.unfrozen a; clear h5))
  all_goals
    have E1 := Lib.hid (D5.out.d1.reg ap hx (a := a) (by omega) wv)
    clear D5
    go_upto_region 47 with (fail)
    generalize World.setCell _ _ _ = w4 at *
    have OK1 := Lib.hid (hx.reg (a := a) WL.out)
    have t16 := E1.out.s.cellAt (OK1.out.gr (i := 16) (by decide))
    have tf := E1.out.s.unfrozen 16
    have E2 := Lib.hid (E1.out.reg ap OK1.out (a := 16) (by decide) nx)
    have e0 := E2.out.e.cellAt (i := 0) rfl
    have e1 := E2.out.e.cellAt (i := 1) rfl
    have ef0 := E2.out.e.unfrozen 0
    have ef1 := E2.out.e.unfrozen 1
    have F := Lib.hid (E2.out.fin HPG.out hmb 0 0)
    clear E1 E2
    go_wp2
    refine bodyPost_ret (v := .agg #[.int .u8 0, .int .u64 0]) (results_cell_row Tryd.results24 _ _ (w.heap.size + 1 + 1) _ #[.int .u8 0, .int .u64 0] _ _ rfl F.out.2 Tryd.underlying50 rfl (by simpa using size2x)) rfl F.out.1
set_option maxRecDepth 8000 in
set_option maxHeartbeats 8000000 in
theorem do_rd {B sb mb : Nat} {pv : Nat → Value} {M : Me} {w : World} (x : Se) (hx : x.Ok) (hb : Blk w sb x.cells 26) (s : Mm B mb pv M w) (ap : Apt sb mb pv) (time me : Int) (a b d : Nat) (n : Int) (ha : a < 16) (hb16 : b < 16) (hn : -32768 ≤ n ∧ n ≤ 32767) (v : Nat) (hv : v < 2 ^ 64) (GC : ∀ W, Calls Tryd.prog 39 #[.agg x.cells.toArray, .int .i64 n, .int .u64 time, .int .i64 me] W fun e w' => e = .returned (.tuple #[.int .u64 (v : Int), .bool true]) ∧ Below W.heap.size W w') :
    Calls Tryd.prog 24 #[.agg (cpuA sb mb time me), .agg (opA 18 a b d n)] w (DoP B sb mb pv ⟨(x.reg a v).reg 16 (nxN x), M, 0, 0⟩ w) := by
  have D := Lib.hid (D0.new time me (opA 18 a b d n) hb s)
  have HPG := Lib.hid (fun g (h : PG pv g) => PG.lt s h)
  have hmb : mb < w.heap.size := s.c.lt
  have hwn : IntKind.i64.wrap n = n := by rw [IntKind.wrap_i64]; omega
  have hwk := kN_wrap n
  have hwx := nx_wrap x
  have KL := Lib.hid (kN_lt n)
  have NL := Lib.hid (nx_lt x)
  have hai : (a : Int) ≤ 15 := by omega
  have hbi : (b : Int) ≤ 15 := by omega
  have hai0 : 0 ≤ (a : Int) := by omega
  have hbi0 : 0 ≤ (b : Int) := by omega
  have hai1 : (a : Int) < 16 := by omega
  have hai2 : ¬ (a : Int) < 0 := by omega
  have hbi2 : ¬ (b : Int) < 0 := by omega
  have hbi1 : (b : Int) < 16 := by omega
  have G16 := Lib.hid (hx.gr (i := 16) (by decide))
  have GA := Lib.hid (hx.gr (i := a) (by omega))
  have GB := Lib.hid (hx.gr (i := b) (by omega))
  have HVA := Lib.hid (getD_lt hx a)
  have HVB := Lib.hid (getD_lt hx b)
  have HPC := Lib.hid (getD_lt hx 16)
  have GC' := Lib.hid GC
  have I26 := Lib.hid (info_se hx)
  have RG := Lib.hid (fun W (h : Blk W sb x.cells 26) => range_all h)
  have HX := Lib.hid hx
  clear GC
  clear hb s
  generalize kN n = kk at *
  generalize nxN x = nx at *
  generalize x.r.getD 16 0 = pc at *
  generalize x.r.getD a 0 = va at *
  generalize x.r.getD b 0 = vb at *
  unfold cpuA opA exitA at *
  go_enter Tryd.func24, Tryd.ntmps24
  go_upto_region 1 with (fail)
  generalize hw1 : ((w.alloc (.cells _ 67)).alloc _).alloc _ = w1 at *
  clear hw1
  have cc0 := D.out.c.cellAt (i := 0) rfl
  have oc0 := D.out.o.cellAt (i := 0) rfl
  have oc1 := D.out.o.cellAt (i := 1) rfl
  have oc2 := D.out.o.cellAt (i := 2) rfl
  have oc4 := D.out.o.cellAt (i := 4) rfl
  have s16 := D.out.s.cellAt G16.out
  have sA := D.out.s.cellAt GA.out
  have sB := D.out.s.cellAt GB.out
  have f16 := D.out.s.unfrozen 16
  have fA := D.out.s.unfrozen a
  go_upto_region 4 with (fail)
  go_quiet (fail)
  have D3 := Lib.hid (D.out.drewN nq)
  clear cc0 oc0 oc1 oc2 oc4 s16 sA sB f16 fA D
  generalize w1.drewN nq = w3 at *
  have cc0 := D3.out.c.cellAt (i := 0) rfl
  have oc0 := D3.out.o.cellAt (i := 0) rfl
  have oc1 := D3.out.o.cellAt (i := 1) rfl
  have s16 := D3.out.s.cellAt G16.out
  have sA := D3.out.s.cellAt GA.out
  have f16 := D3.out.s.unfrozen 16
  have fA := D3.out.s.unfrozen a
  have oc4 := D3.out.o.cellAt (i := 4) rfl
  go_upto_region 30 with (fail)
  have D4 := Lib.hid (D3.out.drewN 1)
  clear D3
  have hS : ((fun w' => w'.cell? ⟨w.heap.size + 1, 1, none⟩ = some (.int .u8 (a : Int)) ∧ w'.cell? ⟨w.heap.size + 1, 4, none⟩ = some (.int .i16 n) ∧ w'.cell? ⟨w.heap.size, 2, none⟩ = some (.int .u64 time) ∧ w'.cell? ⟨w.heap.size, 3, none⟩ = some (.int .i64 me)) : World → Prop) (w3.drewN 1) := ⟨D4.out.o.cellAt (i := 1) rfl, D4.out.o.cellAt (i := 4) rfl, D4.out.c.cellAt (i := 2) rfl, D4.out.c.cellAt (i := 3) rfl⟩
  refine wp_region_held_drew (S := fun w' => w'.cell? ⟨w.heap.size + 1, 1, none⟩ = some (.int .u8 (a : Int)) ∧ w'.cell? ⟨w.heap.size + 1, 4, none⟩ = some (.int .i16 n) ∧ w'.cell? ⟨w.heap.size, 2, none⟩ = some (.int .u64 time) ∧ w'.cell? ⟨w.heap.size, 3, none⟩ = some (.int .i64 me)) (by kernel_rfl) hS (fun hHeld => ?_)
  refine wpAnyH_take (i := 0) (oi := ⟨some 159, _, _, _, _, _⟩) (v := .pointer (some ⟨sb, 0, none⟩)) rfl (by kernel_rfl) (by kernel_rfl) (by kernel_rfl) (fun _ _ _ h => h) (Or.inl ⟨by rfl, fun w' hSw => by (try dsimp only at hSw); obtain ⟨q1, q2, q3, q4⟩ := hSw; go_simp⟩) (by assumption) ?_
  try simp only [Act.put, List.setIfInBounds_toArray, List.set_cons_zero, List.set_cons_succ]
  refine wpAnyH_take (i := 1) (oi := ⟨some 160, _, _, _, _, _⟩) (v := .pointer (some ⟨w.heap.size + 1, 1, none⟩)) rfl (by kernel_rfl) (by kernel_rfl) (by kernel_rfl) (fun _ _ _ h => h) (Or.inl ⟨by rfl, fun w' hSw => by (try dsimp only at hSw); obtain ⟨q1, q2, q3, q4⟩ := hSw; go_simp⟩) (by assumption) ?_
  try simp only [Act.put, List.setIfInBounds_toArray, List.set_cons_zero, List.set_cons_succ]
  refine wpAnyH_take (i := 2) (oi := ⟨some 161, _, _, _, _, _⟩) (v := .int .u8 (a : Int)) rfl (by kernel_rfl) (by kernel_rfl) (by kernel_rfl) (fun _ _ _ h => h) (Or.inl ⟨by rfl, fun w' hSw => by (try dsimp only at hSw); obtain ⟨q1, q2, q3, q4⟩ := hSw; go_simp⟩) (by assumption) ?_
  try simp only [Act.put, List.setIfInBounds_toArray, List.set_cons_zero, List.set_cons_succ]
  refine wpAnyH_take (i := 3) (oi := ⟨some 162, _, _, _, _, _⟩) (v := .pointer (some ⟨sb, 0, none⟩)) rfl (by kernel_rfl) (by kernel_rfl) (by kernel_rfl) (fun _ _ _ h => h) (Or.inl ⟨by rfl, fun w' hSw => by (try dsimp only at hSw); obtain ⟨q1, q2, q3, q4⟩ := hSw; go_simp⟩) (by assumption) ?_
  try simp only [Act.put, List.setIfInBounds_toArray, List.set_cons_zero, List.set_cons_succ]
  refine wpAnyH_take (i := 4) (oi := ⟨some 163, _, _, _, _, _⟩) (v := .pointer (some ⟨sb, 0, none⟩)) rfl (by kernel_rfl) (by kernel_rfl) (by kernel_rfl) (fun _ _ _ h => h) (Or.inl ⟨by rfl, fun w' hSw => by (try dsimp only at hSw); obtain ⟨q1, q2, q3, q4⟩ := hSw; go_simp⟩) (by assumption) ?_
  try simp only [Act.put, List.setIfInBounds_toArray, List.set_cons_zero, List.set_cons_succ]
  refine wpAnyH_take (i := 6) (oi := ⟨some 165, _, _, _, _, _⟩) (v := .pointer (some ⟨w.heap.size + 1, 4, none⟩)) rfl (by kernel_rfl) (by kernel_rfl) (by kernel_rfl) (fun _ _ _ h => h) (Or.inl ⟨by rfl, fun w' hSw => by (try dsimp only at hSw); obtain ⟨q1, q2, q3, q4⟩ := hSw; go_simp⟩) (by assumption) ?_
  try simp only [Act.put, List.setIfInBounds_toArray, List.set_cons_zero, List.set_cons_succ]
  refine wpAnyH_take (i := 7) (oi := ⟨some 166, _, _, _, _, _⟩) (v := .int .i16 n) rfl (by kernel_rfl) (by kernel_rfl) (by kernel_rfl) (fun _ _ _ h => h) (Or.inl ⟨by rfl, fun w' hSw => by (try dsimp only at hSw); obtain ⟨q1, q2, q3, q4⟩ := hSw; go_simp⟩) (by assumption) ?_
  try simp only [Act.put, List.setIfInBounds_toArray, List.set_cons_zero, List.set_cons_succ]
  refine wpAnyH_take (i := 8) (oi := ⟨some 167, _, _, _, _, _⟩) (v := .int .i64 n) rfl (by kernel_rfl) (by kernel_rfl) (by kernel_rfl) (fun _ _ _ h => h) (Or.inl ⟨by rfl, fun w' hSw => by (try dsimp only at hSw); obtain ⟨q1, q2, q3, q4⟩ := hSw; go_simp⟩) (by assumption) ?_
  try simp only [Act.put, List.setIfInBounds_toArray, List.set_cons_zero, List.set_cons_succ]
  refine wpAnyH_take (i := 9) (oi := ⟨some 168, _, _, _, _, _⟩) (v := .pointer (some ⟨w.heap.size, 2, none⟩)) rfl (by kernel_rfl) (by kernel_rfl) (by kernel_rfl) (fun _ _ _ h => h) (Or.inl ⟨by rfl, fun w' hSw => by (try dsimp only at hSw); obtain ⟨q1, q2, q3, q4⟩ := hSw; go_simp⟩) (by assumption) ?_
  try simp only [Act.put, List.setIfInBounds_toArray, List.set_cons_zero, List.set_cons_succ]
  refine wpAnyH_take (i := 10) (oi := ⟨some 169, _, _, _, _, _⟩) (v := .int .u64 time) rfl (by kernel_rfl) (by kernel_rfl) (by kernel_rfl) (fun _ _ _ h => h) (Or.inl ⟨by rfl, fun w' hSw => by (try dsimp only at hSw); obtain ⟨q1, q2, q3, q4⟩ := hSw; go_simp⟩) (by assumption) ?_
  try simp only [Act.put, List.setIfInBounds_toArray, List.set_cons_zero, List.set_cons_succ]
  refine wpAnyH_take (i := 11) (oi := ⟨some 170, _, _, _, _, _⟩) (v := .pointer (some ⟨w.heap.size, 3, none⟩)) rfl (by kernel_rfl) (by kernel_rfl) (by kernel_rfl) (fun _ _ _ h => h) (Or.inl ⟨by rfl, fun w' hSw => by (try dsimp only at hSw); obtain ⟨q1, q2, q3, q4⟩ := hSw; go_simp⟩) (by assumption) ?_
  try simp only [Act.put, List.setIfInBounds_toArray, List.set_cons_zero, List.set_cons_succ]
  refine wpAnyH_take (i := 12) (oi := ⟨some 171, _, _, _, _, _⟩) (v := .int .i64 me) rfl (by kernel_rfl) (by kernel_rfl) (by kernel_rfl) (fun _ _ _ h => h) (Or.inl ⟨by rfl, fun w' hSw => by (try dsimp only at hSw); obtain ⟨q1, q2, q3, q4⟩ := hSw; go_simp⟩) (by assumption) ?_
  try simp only [Act.put, List.setIfInBounds_toArray, List.set_cons_zero, List.set_cons_succ]
  refine wpAnyH_take (i := 17) (oi := ⟨some 175, _, _, _, _, _⟩) (v := .pointer (some ⟨sb, 0, none⟩)) rfl (by kernel_rfl) (by kernel_rfl) (by kernel_rfl) (fun _ _ _ h => h) (Or.inl ⟨by rfl, fun w' hSw => by (try dsimp only at hSw); obtain ⟨q1, q2, q3, q4⟩ := hSw; go_simp⟩) (by assumption) ?_
  try simp only [Act.put, List.setIfInBounds_toArray, List.set_cons_zero, List.set_cons_succ]
  refine wpAnyH_take (i := 18) (oi := ⟨some 176, _, _, _, _, _⟩) (v := .pointer (some ⟨sb, 0, none⟩)) rfl (by kernel_rfl) (by kernel_rfl) (by kernel_rfl) (fun _ _ _ h => h) (Or.inl ⟨by rfl, fun w' hSw => by (try dsimp only at hSw); obtain ⟨q1, q2, q3, q4⟩ := hSw; go_simp⟩) (by assumption) ?_
  try simp only [Act.put, List.setIfInBounds_toArray, List.set_cons_zero, List.set_cons_succ]
  refine wpAnyH_ready (rs := [5]) (by kernel_rfl) (by simp) ?_
  refine AllReadyH.cons rfl (fun K hK => ?_) AllReadyH.nil
  rw [if_pos (by rfl)]
  refine wp_load_mid 26 (.tmp 163) rfl sb 0 rfl x.cells _ (RG.out _ D4.out.s) Tryd.underlying26 rfl I26.out ?_
  refine hK.out _ _ hS (fun hHeld => ?_)
  clear hK K
  try simp only [Act.put, List.setIfInBounds_toArray, List.set_cons_zero, List.set_cons_succ]
  refine wpAnyH_ready (rs := [13]) (by kernel_rfl) (by simp) ?_
  refine AllReadyH.cons rfl (fun K hK => ?_) AllReadyH.nil
  go_simp
  go_at_call 39
  refine (GC'.out _).mono ?_
  rintro e w5 ⟨rfl, b5⟩
  have D5 := Lib.hid (D4.out.step b5)
  clear b5
  try dsimp only
  refine hK.out _ _ ⟨D5.out.o.cellAt (i := 1) rfl, D5.out.o.cellAt (i := 4) rfl, D5.out.c.cellAt (i := 2) rfl, D5.out.c.cellAt (i := 3) rfl⟩ (fun hHeld => ?_)
  clear hK K
  try simp only [Act.put, List.setIfInBounds_toArray, List.set_cons_zero, List.set_cons_succ]
  refine wpAnyH_take (i := 14) (oi := ⟨some 158, _, _, _, _, _⟩) (v := .tuple #[.int .u64 (v : Int), .bool true]) rfl (by kernel_rfl) (by kernel_rfl) (by kernel_rfl) (fun _ _ _ h => h) (Or.inl ⟨by rfl, fun w' hSw => by (try dsimp only at hSw); obtain ⟨q1, q2, q3, q4⟩ := hSw; go_simp⟩) (by assumption) ?_
  try simp only [Act.put, List.setIfInBounds_toArray, List.set_cons_zero, List.set_cons_succ]
  refine wpAnyH_take (i := 15) (oi := ⟨some 173, _, _, _, _, _⟩) (v := .int .u64 (v : Int)) rfl (by kernel_rfl) (by kernel_rfl) (by kernel_rfl) (fun _ _ _ h => h) (Or.inl ⟨by rfl, fun w' hSw => by (try dsimp only at hSw); obtain ⟨q1, q2, q3, q4⟩ := hSw; go_simp⟩) (by assumption) ?_
  try simp only [Act.put, List.setIfInBounds_toArray, List.set_cons_zero, List.set_cons_succ]
  refine wpAnyH_take (i := 16) (oi := ⟨some 174, _, _, _, _, _⟩) (v := .bool true) rfl (by kernel_rfl) (by kernel_rfl) (by kernel_rfl) (fun _ _ _ h => h) (Or.inl ⟨by rfl, fun w' hSw => by (try dsimp only at hSw); obtain ⟨q1, q2, q3, q4⟩ := hSw; go_simp⟩) (by assumption) ?_
  try simp only [Act.put, List.setIfInBounds_toArray, List.set_cons_zero, List.set_cons_succ]
  refine wpAnyH_take (i := 19) (oi := ⟨some 177, _, _, _, _, _⟩) (v := .pointer (some ⟨sb, a, none⟩)) rfl (by kernel_rfl) (by kernel_rfl) (by kernel_rfl) (fun _ _ _ h => h) (Or.inl ⟨by rfl, fun w' hSw => by (try dsimp only at hSw); obtain ⟨q1, q2, q3, q4⟩ := hSw; go_simp⟩) (by assumption) ?_
  try simp only [Act.put, List.setIfInBounds_toArray, List.set_cons_zero, List.set_cons_succ]
  refine wpAnyH_ready (rs := [20]) (by kernel_rfl) (by simp) ?_
  refine AllReadyH.cons rfl (fun K hK => ?_) AllReadyH.nil
  have fA5 := D5.out.s.unfrozen a
  have sA5 := D5.out.s.cellAt GA.out
  have E1 := Lib.hid (D5.out.d1.reg ap hx (a := a) (by omega) v)
  have Z1 := D5.out.o
  have Z2 := D5.out.c
  have Z3 := D5.out.l
  go_simp
  refine hK.out _ _ ⟨(Z1.other (show sb ≠ w.heap.size + 1 by omega) _).cellAt (i := 1) rfl, (Z1.other (show sb ≠ w.heap.size + 1 by omega) _).cellAt (i := 4) rfl, (Z2.other (show sb ≠ w.heap.size by omega) _).cellAt (i := 2) rfl, (Z2.other (show sb ≠ w.heap.size by omega) _).cellAt (i := 3) rfl⟩ (fun hHeld => ?_)
  clear hK K Z1 Z2 Z3 D5 D4
  refine wpAnyH_done (by kernel_rfl) ?_ _
  try simp only [Act.put, List.setIfInBounds_toArray, List.set_cons_zero, List.set_cons_succ]
  go_upto_region 47 with (fail)
  generalize World.setCell _ _ _ = w6 at *
  have OK1 := Lib.hid (hx.reg (a := a) hv)
  have t16 := E1.out.s.cellAt (OK1.out.gr (i := 16) (by decide))
  have tf := E1.out.s.unfrozen 16
  have E2 := Lib.hid (E1.out.reg ap OK1.out (a := 16) (by decide) nx)
  have e0 := E2.out.e.cellAt (i := 0) rfl
  have e1 := E2.out.e.cellAt (i := 1) rfl
  have ef0 := E2.out.e.unfrozen 0
  have ef1 := E2.out.e.unfrozen 1
  have F := Lib.hid (E2.out.fin HPG.out hmb 0 0)
  clear E1 E2
  go_wp2
  refine bodyPost_ret (v := .agg #[.int .u8 0, .int .u64 0]) (results_cell_row Tryd.results24 _ _ (w.heap.size + 1 + 1) _ #[.int .u8 0, .int .u64 0] _ _ rfl F.out.2 Tryd.underlying50 rfl (by simpa using size2x)) rfl F.out.1
set_option maxRecDepth 8000 in
set_option maxHeartbeats 8000000 in
theorem do_wr0 {B sb mb : Nat} {pv : Nat → Value} {M : Me} {w : World} (x : Se) (hx : x.Ok) (hb : Blk w sb x.cells 26) (s : Mm B mb pv M w) (ap : Apt sb mb pv) (time me : Int) (a b d : Nat) (n : Int) (ha : a < 16) (hb16 : b < 16) (hn : -32768 ≤ n ∧ n ≤ 32767) (hk : n = 0) :
    Calls Tryd.prog 24 #[.agg (cpuA sb mb time me), .agg (opA 19 a b d n)] w (DoP B sb mb pv ⟨(wakeS (setS x 0 (x.r.getD a 0))).reg 16 (nxN x), M, 0, 0⟩ w) := by
  have D := Lib.hid (D0.new time me (opA 19 a b d n) hb s)
  have HPG := Lib.hid (fun g (h : PG pv g) => PG.lt s h)
  have hmb : mb < w.heap.size := s.c.lt
  have hwn : IntKind.i64.wrap n = n := by rw [IntKind.wrap_i64]; omega
  have hwk := kN_wrap n
  have hwx := nx_wrap x
  have KL := Lib.hid (kN_lt n)
  have NL := Lib.hid (nx_lt x)
  have hai : (a : Int) ≤ 15 := by omega
  have hbi : (b : Int) ≤ 15 := by omega
  have hai0 : 0 ≤ (a : Int) := by omega
  have hbi0 : 0 ≤ (b : Int) := by omega
  have hai1 : (a : Int) < 16 := by omega
  have hai2 : ¬ (a : Int) < 0 := by omega
  have hbi2 : ¬ (b : Int) < 0 := by omega
  have hbi1 : (b : Int) < 16 := by omega
  have G16 := Lib.hid (hx.gr (i := 16) (by decide))
  have GA := Lib.hid (hx.gr (i := a) (by omega))
  have GB := Lib.hid (hx.gr (i := b) (by omega))
  have HVA := Lib.hid (getD_lt hx a)
  have HVB := Lib.hid (getD_lt hx b)
  have HPC := Lib.hid (getD_lt hx 16)
  have SC := Lib.hid (fun W (hW : Blk W sb x.cells 26) => set0 x hx (x.r.getD a 0) (getD_lt hx a) sb W hW)
  rw [show (0 : Int) = n from hk.symm] at SC
  clear hk
  have OK2 := Lib.hid (setS_ok hx (k := 0) (getD_lt hx a))
  have WC := Lib.hid (fun W (hW : Blk W sb (setS x 0 (x.r.getD a 0)).cells 26) => wake_calls _ OK2.out sb W hW)
  have OK3 := Lib.hid (wake_ok OK2.out)
  clear hb s
  generalize kN n = kk at *
  generalize nxN x = nx at *
  generalize x.r.getD 16 0 = pc at *
  generalize x.r.getD a 0 = va at *
  generalize x.r.getD b 0 = vb at *
  unfold cpuA opA exitA at *
  go_enter Tryd.func24, Tryd.ntmps24
  go_upto_region 1 with (fail)
  generalize hw1 : ((w.alloc (.cells _ 67)).alloc _).alloc _ = w1 at *
  clear hw1
  have cc0 := D.out.c.cellAt (i := 0) rfl
  have oc0 := D.out.o.cellAt (i := 0) rfl
  have oc1 := D.out.o.cellAt (i := 1) rfl
  have oc2 := D.out.o.cellAt (i := 2) rfl
  have oc4 := D.out.o.cellAt (i := 4) rfl
  have s16 := D.out.s.cellAt G16.out
  have sA := D.out.s.cellAt GA.out
  have sB := D.out.s.cellAt GB.out
  have f16 := D.out.s.unfrozen 16
  have fA := D.out.s.unfrozen a
  go_upto_region 4 with (fail)
  go_quiet (fail)
  have D3 := Lib.hid (D.out.drewN nq)
  clear cc0 oc0 oc1 oc2 oc4 s16 sA sB f16 fA D
  generalize w1.drewN nq = w3 at *
  have cc0 := D3.out.c.cellAt (i := 0) rfl
  have oc0 := D3.out.o.cellAt (i := 0) rfl
  have oc1 := D3.out.o.cellAt (i := 1) rfl
  have s16 := D3.out.s.cellAt G16.out
  have sA := D3.out.s.cellAt GA.out
  have f16 := D3.out.s.unfrozen 16
  have fA := D3.out.s.unfrozen a
  have oc4 := D3.out.o.cellAt (i := 4) rfl
  go_upto_region 47 with (first
    | (go_at_call 40; refine (SC.out _ D3.out.s).mono ?_; rintro e w4 ⟨rfl, u4⟩; have D4 := Lib.hid (D3.out.d1.upd ap u4); clear u4)
    | (go_at_call 41; refine (WC.out _ D4.out.s).mono ?_; rintro e w5 ⟨rfl, u5⟩; have E1 := Lib.hid (D4.out.upd ap u5); clear u5))
  clear D3 D4 SC WC
  have OK1 := Lib.hid OK3.out
  have t16 := E1.out.s.cellAt (OK1.out.gr (i := 16) (by decide))
  have tf := E1.out.s.unfrozen 16
  have E2 := Lib.hid (E1.out.reg ap OK1.out (a := 16) (by decide) nx)
  have e0 := E2.out.e.cellAt (i := 0) rfl
  have e1 := E2.out.e.cellAt (i := 1) rfl
  have ef0 := E2.out.e.unfrozen 0
  have ef1 := E2.out.e.unfrozen 1
  have F := Lib.hid (E2.out.fin HPG.out hmb 0 0)
  clear E1 E2
  go_wp2
  refine bodyPost_ret (v := .agg #[.int .u8 0, .int .u64 0]) (results_cell_row Tryd.results24 _ _ (w.heap.size + 1 + 1) _ #[.int .u8 0, .int .u64 0] _ _ rfl F.out.2 Tryd.underlying50 rfl (by simpa using size2x)) rfl F.out.1
set_option maxRecDepth 8000 in
set_option maxHeartbeats 8000000 in
theorem do_wr1 {B sb mb : Nat} {pv : Nat → Value} {M : Me} {w : World} (x : Se) (hx : x.Ok) (hb : Blk w sb x.cells 26) (s : Mm B mb pv M w) (ap : Apt sb mb pv) (time me : Int) (a b d : Nat) (n : Int) (ha : a < 16) (hb16 : b < 16) (hn : -32768 ≤ n ∧ n ≤ 32767) (hk : n = 1) :
    Calls Tryd.prog 24 #[.agg (cpuA sb mb time me), .agg (opA 19 a b d n)] w (DoP B sb mb pv ⟨(wakeS (setS x 1 (x.r.getD a 0))).reg 16 (nxN x), M, 0, 0⟩ w) := by
  have D := Lib.hid (D0.new time me (opA 19 a b d n) hb s)
  have HPG := Lib.hid (fun g (h : PG pv g) => PG.lt s h)
  have hmb : mb < w.heap.size := s.c.lt
  have hwn : IntKind.i64.wrap n = n := by rw [IntKind.wrap_i64]; omega
  have hwk := kN_wrap n
  have hwx := nx_wrap x
  have KL := Lib.hid (kN_lt n)
  have NL := Lib.hid (nx_lt x)
  have hai : (a : Int) ≤ 15 := by omega
  have hbi : (b : Int) ≤ 15 := by omega
  have hai0 : 0 ≤ (a : Int) := by omega
  have hbi0 : 0 ≤ (b : Int) := by omega
  have hai1 : (a : Int) < 16 := by omega
  have hai2 : ¬ (a : Int) < 0 := by omega
  have hbi2 : ¬ (b : Int) < 0 := by omega
  have hbi1 : (b : Int) < 16 := by omega
  have G16 := Lib.hid (hx.gr (i := 16) (by decide))
  have GA := Lib.hid (hx.gr (i := a) (by omega))
  have GB := Lib.hid (hx.gr (i := b) (by omega))
  have HVA := Lib.hid (getD_lt hx a)
  have HVB := Lib.hid (getD_lt hx b)
  have HPC := Lib.hid (getD_lt hx 16)
  have SC := Lib.hid (fun W (hW : Blk W sb x.cells 26) => set1 x hx (x.r.getD a 0) (getD_lt hx a) sb W hW)
  rw [show (1 : Int) = n from hk.symm] at SC
  clear hk
  have OK2 := Lib.hid (setS_ok hx (k := 1) (getD_lt hx a))
  have WC := Lib.hid (fun W (hW : Blk W sb (setS x 1 (x.r.getD a 0)).cells 26) => wake_calls _ OK2.out sb W hW)
  have OK3 := Lib.hid (wake_ok OK2.out)
  clear hb s
  generalize kN n = kk at *
  generalize nxN x = nx at *
  generalize x.r.getD 16 0 = pc at *
  generalize x.r.getD a 0 = va at *
  generalize x.r.getD b 0 = vb at *
  unfold cpuA opA exitA at *
  go_enter Tryd.func24, Tryd.ntmps24
  go_upto_region 1 with (fail)
  generalize hw1 : ((w.alloc (.cells _ 67)).alloc _).alloc _ = w1 at *
  clear hw1
  have cc0 := D.out.c.cellAt (i := 0) rfl
  have oc0 := D.out.o.cellAt (i := 0) rfl
  have oc1 := D.out.o.cellAt (i := 1) rfl
  have oc2 := D.out.o.cellAt (i := 2) rfl
  have oc4 := D.out.o.cellAt (i := 4) rfl
  have s16 := D.out.s.cellAt G16.out
  have sA := D.out.s.cellAt GA.out
  have sB := D.out.s.cellAt GB.out
  have f16 := D.out.s.unfrozen 16
  have fA := D.out.s.unfrozen a
  go_upto_region 4 with (fail)
  go_quiet (fail)
  have D3 := Lib.hid (D.out.drewN nq)
  clear cc0 oc0 oc1 oc2 oc4 s16 sA sB f16 fA D
  generalize w1.drewN nq = w3 at *
  have cc0 := D3.out.c.cellAt (i := 0) rfl
  have oc0 := D3.out.o.cellAt (i := 0) rfl
  have oc1 := D3.out.o.cellAt (i := 1) rfl
  have s16 := D3.out.s.cellAt G16.out
  have sA := D3.out.s.cellAt GA.out
  have f16 := D3.out.s.unfrozen 16
  have fA := D3.out.s.unfrozen a
  have oc4 := D3.out.o.cellAt (i := 4) rfl
  go_upto_region 47 with (first
    | (go_at_call 40; refine (SC.out _ D3.out.s).mono ?_; rintro e w4 ⟨rfl, u4⟩; have D4 := Lib.hid (D3.out.d1.upd ap u4); clear u4)
    | (go_at_call 41; refine (WC.out _ D4.out.s).mono ?_; rintro e w5 ⟨rfl, u5⟩; have E1 := Lib.hid (D4.out.upd ap u5); clear u5))
  clear D3 D4 SC WC
  have OK1 := Lib.hid OK3.out
  have t16 := E1.out.s.cellAt (OK1.out.gr (i := 16) (by decide))
  have tf := E1.out.s.unfrozen 16
  have E2 := Lib.hid (E1.out.reg ap OK1.out (a := 16) (by decide) nx)
  have e0 := E2.out.e.cellAt (i := 0) rfl
  have e1 := E2.out.e.cellAt (i := 1) rfl
  have ef0 := E2.out.e.unfrozen 0
  have ef1 := E2.out.e.unfrozen 1
  have F := Lib.hid (E2.out.fin HPG.out hmb 0 0)
  clear E1 E2
  go_wp2
  refine bodyPost_ret (v := .agg #[.int .u8 0, .int .u64 0]) (results_cell_row Tryd.results24 _ _ (w.heap.size + 1 + 1) _ #[.int .u8 0, .int .u64 0] _ _ rfl F.out.2 Tryd.underlying50 rfl (by simpa using size2x)) rfl F.out.1
set_option maxRecDepth 8000 in
set_option maxHeartbeats 8000000 in
theorem do_wr2 {B sb mb : Nat} {pv : Nat → Value} {M : Me} {w : World} (x : Se) (hx : x.Ok) (hb : Blk w sb x.cells 26) (s : Mm B mb pv M w) (ap : Apt sb mb pv) (time me : Int) (a b d : Nat) (n : Int) (ha : a < 16) (hb16 : b < 16) (hn : -32768 ≤ n ∧ n ≤ 32767) (hk : n = 2) :
    Calls Tryd.prog 24 #[.agg (cpuA sb mb time me), .agg (opA 19 a b d n)] w (DoP B sb mb pv ⟨(wakeS (setS x 2 (x.r.getD a 0))).reg 16 (nxN x), M, 0, 0⟩ w) := by
  have D := Lib.hid (D0.new time me (opA 19 a b d n) hb s)
  have HPG := Lib.hid (fun g (h : PG pv g) => PG.lt s h)
  have hmb : mb < w.heap.size := s.c.lt
  have hwn : IntKind.i64.wrap n = n := by rw [IntKind.wrap_i64]; omega
  have hwk := kN_wrap n
  have hwx := nx_wrap x
  have KL := Lib.hid (kN_lt n)
  have NL := Lib.hid (nx_lt x)
  have hai : (a : Int) ≤ 15 := by omega
  have hbi : (b : Int) ≤ 15 := by omega
  have hai0 : 0 ≤ (a : Int) := by omega
  have hbi0 : 0 ≤ (b : Int) := by omega
  have hai1 : (a : Int) < 16 := by omega
  have hai2 : ¬ (a : Int) < 0 := by omega
  have hbi2 : ¬ (b : Int) < 0 := by omega
  have hbi1 : (b : Int) < 16 := by omega
  have G16 := Lib.hid (hx.gr (i := 16) (by decide))
  have GA := Lib.hid (hx.gr (i := a) (by omega))
  have GB := Lib.hid (hx.gr (i := b) (by omega))
  have HVA := Lib.hid (getD_lt hx a)
  have HVB := Lib.hid (getD_lt hx b)
  have HPC := Lib.hid (getD_lt hx 16)
  have SC := Lib.hid (fun W (hW : Blk W sb x.cells 26) => set2 x hx (x.r.getD a 0) (getD_lt hx a) sb W hW)
  rw [show (2 : Int) = n from hk.symm] at SC
  clear hk
  have OK2 := Lib.hid (setS_ok hx (k := 2) (getD_lt hx a))
  have WC := Lib.hid (fun W (hW : Blk W sb (setS x 2 (x.r.getD a 0)).cells 26) => wake_calls _ OK2.out sb W hW)
  have OK3 := Lib.hid (wake_ok OK2.out)
  clear hb s
  generalize kN n = kk at *
  generalize nxN x = nx at *
  generalize x.r.getD 16 0 = pc at *
  generalize x.r.getD a 0 = va at *
  generalize x.r.getD b 0 = vb at *
  unfold cpuA opA exitA at *
  go_enter Tryd.func24, Tryd.ntmps24
  go_upto_region 1 with (fail)
  generalize hw1 : ((w.alloc (.cells _ 67)).alloc _).alloc _ = w1 at *
  clear hw1
  have cc0 := D.out.c.cellAt (i := 0) rfl
  have oc0 := D.out.o.cellAt (i := 0) rfl
  have oc1 := D.out.o.cellAt (i := 1) rfl
  have oc2 := D.out.o.cellAt (i := 2) rfl
  have oc4 := D.out.o.cellAt (i := 4) rfl
  have s16 := D.out.s.cellAt G16.out
  have sA := D.out.s.cellAt GA.out
  have sB := D.out.s.cellAt GB.out
  have f16 := D.out.s.unfrozen 16
  have fA := D.out.s.unfrozen a
  go_upto_region 4 with (fail)
  go_quiet (fail)
  have D3 := Lib.hid (D.out.drewN nq)
  clear cc0 oc0 oc1 oc2 oc4 s16 sA sB f16 fA D
  generalize w1.drewN nq = w3 at *
  have cc0 := D3.out.c.cellAt (i := 0) rfl
  have oc0 := D3.out.o.cellAt (i := 0) rfl
  have oc1 := D3.out.o.cellAt (i := 1) rfl
  have s16 := D3.out.s.cellAt G16.out
  have sA := D3.out.s.cellAt GA.out
  have f16 := D3.out.s.unfrozen 16
  have fA := D3.out.s.unfrozen a
  have oc4 := D3.out.o.cellAt (i := 4) rfl
  go_upto_region 47 with (first
    | (go_at_call 40; refine (SC.out _ D3.out.s).mono ?_; rintro e w4 ⟨rfl, u4⟩; have D4 := Lib.hid (D3.out.d1.upd ap u4); clear u4)
    | (go_at_call 41; refine (WC.out _ D4.out.s).mono ?_; rintro e w5 ⟨rfl, u5⟩; have E1 := Lib.hid (D4.out.upd ap u5); clear u5))
  clear D3 D4 SC WC
  have OK1 := Lib.hid OK3.out
  have t16 := E1.out.s.cellAt (OK1.out.gr (i := 16) (by decide))
  have tf := E1.out.s.unfrozen 16
  have E2 := Lib.hid (E1.out.reg ap OK1.out (a := 16) (by decide) nx)
  have e0 := E2.out.e.cellAt (i := 0) rfl
  have e1 := E2.out.e.cellAt (i := 1) rfl
  have ef0 := E2.out.e.unfrozen 0
  have ef1 := E2.out.e.unfrozen 1
  have F := Lib.hid (E2.out.fin HPG.out hmb 0 0)
  clear E1 E2
  go_wp2
  refine bodyPost_ret (v := .agg #[.int .u8 0, .int .u64 0]) (results_cell_row Tryd.results24 _ _ (w.heap.size + 1 + 1) _ #[.int .u8 0, .int .u64 0] _ _ rfl F.out.2 Tryd.underlying50 rfl (by simpa using size2x)) rfl F.out.1
set_option maxRecDepth 8000 in
set_option maxHeartbeats 8000000 in
theorem do_wr3 {B sb mb : Nat} {pv : Nat → Value} {M : Me} {w : World} (x : Se) (hx : x.Ok) (hb : Blk w sb x.cells 26) (s : Mm B mb pv M w) (ap : Apt sb mb pv) (time me : Int) (a b d : Nat) (n : Int) (ha : a < 16) (hb16 : b < 16) (hn : -32768 ≤ n ∧ n ≤ 32767) (hk : n = 3) :
    Calls Tryd.prog 24 #[.agg (cpuA sb mb time me), .agg (opA 19 a b d n)] w (DoP B sb mb pv ⟨(wakeS (setS x 3 (x.r.getD a 0))).reg 16 (nxN x), M, 0, 0⟩ w) := by
  have D := Lib.hid (D0.new time me (opA 19 a b d n) hb s)
  have HPG := Lib.hid (fun g (h : PG pv g) => PG.lt s h)
  have hmb : mb < w.heap.size := s.c.lt
  have hwn : IntKind.i64.wrap n = n := by rw [IntKind.wrap_i64]; omega
  have hwk := kN_wrap n
  have hwx := nx_wrap x
  have KL := Lib.hid (kN_lt n)
  have NL := Lib.hid (nx_lt x)
  have hai : (a : Int) ≤ 15 := by omega
  have hbi : (b : Int) ≤ 15 := by omega
  have hai0 : 0 ≤ (a : Int) := by omega
  have hbi0 : 0 ≤ (b : Int) := by omega
  have hai1 : (a : Int) < 16 := by omega
  have hai2 : ¬ (a : Int) < 0 := by omega
  have hbi2 : ¬ (b : Int) < 0 := by omega
  have hbi1 : (b : Int) < 16 := by omega
  have G16 := Lib.hid (hx.gr (i := 16) (by decide))
  have GA := Lib.hid (hx.gr (i := a) (by omega))
  have GB := Lib.hid (hx.gr (i := b) (by omega))
  have HVA := Lib.hid (getD_lt hx a)
  have HVB := Lib.hid (getD_lt hx b)
  have HPC := Lib.hid (getD_lt hx 16)
  have SC := Lib.hid (fun W (hW : Blk W sb x.cells 26) => set3 x hx (x.r.getD a 0) (getD_lt hx a) sb W hW)
  rw [show (3 : Int) = n from hk.symm] at SC
  clear hk
  have OK2 := Lib.hid (setS_ok hx (k := 3) (getD_lt hx a))
  have WC := Lib.hid (fun W (hW : Blk W sb (setS x 3 (x.r.getD a 0)).cells 26) => wake_calls _ OK2.out sb W hW)
  have OK3 := Lib.hid (wake_ok OK2.out)
  clear hb s
  generalize kN n = kk at *
  generalize nxN x = nx at *
  generalize x.r.getD 16 0 = pc at *
  generalize x.r.getD a 0 = va at *
  generalize x.r.getD b 0 = vb at *
  unfold cpuA opA exitA at *
  go_enter Tryd.func24, Tryd.ntmps24
  go_upto_region 1 with (fail)
  generalize hw1 : ((w.alloc (.cells _ 67)).alloc _).alloc _ = w1 at *
  clear hw1
  have cc0 := D.out.c.cellAt (i := 0) rfl
  have oc0 := D.out.o.cellAt (i := 0) rfl
  have oc1 := D.out.o.cellAt (i := 1) rfl
  have oc2 := D.out.o.cellAt (i := 2) rfl
  have oc4 := D.out.o.cellAt (i := 4) rfl
  have s16 := D.out.s.cellAt G16.out
  have sA := D.out.s.cellAt GA.out
  have sB := D.out.s.cellAt GB.out
  have f16 := D.out.s.unfrozen 16
  have fA := D.out.s.unfrozen a
  go_upto_region 4 with (fail)
  go_quiet (fail)
  have D3 := Lib.hid (D.out.drewN nq)
  clear cc0 oc0 oc1 oc2 oc4 s16 sA sB f16 fA D
  generalize w1.drewN nq = w3 at *
  have cc0 := D3.out.c.cellAt (i := 0) rfl
  have oc0 := D3.out.o.cellAt (i := 0) rfl
  have oc1 := D3.out.o.cellAt (i := 1) rfl
  have s16 := D3.out.s.cellAt G16.out
  have sA := D3.out.s.cellAt GA.out
  have f16 := D3.out.s.unfrozen 16
  have fA := D3.out.s.unfrozen a
  have oc4 := D3.out.o.cellAt (i := 4) rfl
  go_upto_region 47 with (first
    | (go_at_call 40; refine (SC.out _ D3.out.s).mono ?_; rintro e w4 ⟨rfl, u4⟩; have D4 := Lib.hid (D3.out.d1.upd ap u4); clear u4)
    | (go_at_call 41; refine (WC.out _ D4.out.s).mono ?_; rintro e w5 ⟨rfl, u5⟩; have E1 := Lib.hid (D4.out.upd ap u5); clear u5))
  clear D3 D4 SC WC
  have OK1 := Lib.hid OK3.out
  have t16 := E1.out.s.cellAt (OK1.out.gr (i := 16) (by decide))
  have tf := E1.out.s.unfrozen 16
  have E2 := Lib.hid (E1.out.reg ap OK1.out (a := 16) (by decide) nx)
  have e0 := E2.out.e.cellAt (i := 0) rfl
  have e1 := E2.out.e.cellAt (i := 1) rfl
  have ef0 := E2.out.e.unfrozen 0
  have ef1 := E2.out.e.unfrozen 1
  have F := Lib.hid (E2.out.fin HPG.out hmb 0 0)
  clear E1 E2
  go_wp2
  refine bodyPost_ret (v := .agg #[.int .u8 0, .int .u64 0]) (results_cell_row Tryd.results24 _ _ (w.heap.size + 1 + 1) _ #[.int .u8 0, .int .u64 0] _ _ rfl F.out.2 Tryd.underlying50 rfl (by simpa using size2x)) rfl F.out.1
set_option maxRecDepth 8000 in
set_option maxHeartbeats 8000000 in
theorem do_wr4 {B sb mb : Nat} {pv : Nat → Value} {M : Me} {w : World} (x : Se) (hx : x.Ok) (hb : Blk w sb x.cells 26) (s : Mm B mb pv M w) (ap : Apt sb mb pv) (time me : Int) (a b d : Nat) (n : Int) (ha : a < 16) (hb16 : b < 16) (hn : -32768 ≤ n ∧ n ≤ 32767) (hk : n = 4) :
    Calls Tryd.prog 24 #[.agg (cpuA sb mb time me), .agg (opA 19 a b d n)] w (DoP B sb mb pv ⟨(wakeS (setS x 4 (x.r.getD a 0))).reg 16 (nxN x), M, 0, 0⟩ w) := by
  have D := Lib.hid (D0.new time me (opA 19 a b d n) hb s)
  have HPG := Lib.hid (fun g (h : PG pv g) => PG.lt s h)
  have hmb : mb < w.heap.size := s.c.lt
  have hwn : IntKind.i64.wrap n = n := by rw [IntKind.wrap_i64]; omega
  have hwk := kN_wrap n
  have hwx := nx_wrap x
  have KL := Lib.hid (kN_lt n)
  have NL := Lib.hid (nx_lt x)
  have hai : (a : Int) ≤ 15 := by omega
  have hbi : (b : Int) ≤ 15 := by omega
  have hai0 : 0 ≤ (a : Int) := by omega
  have hbi0 : 0 ≤ (b : Int) := by omega
  have hai1 : (a : Int) < 16 := by omega
  have hai2 : ¬ (a : Int) < 0 := by omega
  have hbi2 : ¬ (b : Int) < 0 := by omega
  have hbi1 : (b : Int) < 16 := by omega
  have G16 := Lib.hid (hx.gr (i := 16) (by decide))
  have GA := Lib.hid (hx.gr (i := a) (by omega))
  have GB := Lib.hid (hx.gr (i := b) (by omega))
  have HVA := Lib.hid (getD_lt hx a)
  have HVB := Lib.hid (getD_lt hx b)
  have HPC := Lib.hid (getD_lt hx 16)
  have SC := Lib.hid (fun W (hW : Blk W sb x.cells 26) => set4 x hx (x.r.getD a 0) (getD_lt hx a) sb W hW)
  rw [show (4 : Int) = n from hk.symm] at SC
  clear hk
  have OK2 := Lib.hid (setS_ok hx (k := 4) (getD_lt hx a))
  have WC := Lib.hid (fun W (hW : Blk W sb (setS x 4 (x.r.getD a 0)).cells 26) => wake_calls _ OK2.out sb W hW)
  have OK3 := Lib.hid (wake_ok OK2.out)
  clear hb s
  generalize kN n = kk at *
  generalize nxN x = nx at *
  generalize x.r.getD 16 0 = pc at *
  generalize x.r.getD a 0 = va at *
  generalize x.r.getD b 0 = vb at *
  unfold cpuA opA exitA at *
  go_enter Tryd.func24, Tryd.ntmps24
  go_upto_region 1 with (fail)
  generalize hw1 : ((w.alloc (.cells _ 67)).alloc _).alloc _ = w1 at *
  clear hw1
  have cc0 := D.out.c.cellAt (i := 0) rfl
  have oc0 := D.out.o.cellAt (i := 0) rfl
  have oc1 := D.out.o.cellAt (i := 1) rfl
  have oc2 := D.out.o.cellAt (i := 2) rfl
  have oc4 := D.out.o.cellAt (i := 4) rfl
  have s16 := D.out.s.cellAt G16.out
  have sA := D.out.s.cellAt GA.out
  have sB := D.out.s.cellAt GB.out
  have f16 := D.out.s.unfrozen 16
  have fA := D.out.s.unfrozen a
  go_upto_region 4 with (fail)
  go_quiet (fail)
  have D3 := Lib.hid (D.out.drewN nq)
  clear cc0 oc0 oc1 oc2 oc4 s16 sA sB f16 fA D
  generalize w1.drewN nq = w3 at *
  have cc0 := D3.out.c.cellAt (i := 0) rfl
  have oc0 := D3.out.o.cellAt (i := 0) rfl
  have oc1 := D3.out.o.cellAt (i := 1) rfl
  have s16 := D3.out.s.cellAt G16.out
  have sA := D3.out.s.cellAt GA.out
  have f16 := D3.out.s.unfrozen 16
  have fA := D3.out.s.unfrozen a
  have oc4 := D3.out.o.cellAt (i := 4) rfl
  go_upto_region 47 with (first
    | (go_at_call 40; refine (SC.out _ D3.out.s).mono ?_; rintro e w4 ⟨rfl, u4⟩; have D4 := Lib.hid (D3.out.d1.upd ap u4); clear u4)
    | (go_at_call 41; refine (WC.out _ D4.out.s).mono ?_; rintro e w5 ⟨rfl, u5⟩; have E1 := Lib.hid (D4.out.upd ap u5); clear u5))
  clear D3 D4 SC WC
  have OK1 := Lib.hid OK3.out
  have t16 := E1.out.s.cellAt (OK1.out.gr (i := 16) (by decide))
  have tf := E1.out.s.unfrozen 16
  have E2 := Lib.hid (E1.out.reg ap OK1.out (a := 16) (by decide) nx)
  have e0 := E2.out.e.cellAt (i := 0) rfl
  have e1 := E2.out.e.cellAt (i := 1) rfl
  have ef0 := E2.out.e.unfrozen 0
  have ef1 := E2.out.e.unfrozen 1
  have F := Lib.hid (E2.out.fin HPG.out hmb 0 0)
  clear E1 E2
  go_wp2
  refine bodyPost_ret (v := .agg #[.int .u8 0, .int .u64 0]) (results_cell_row Tryd.results24 _ _ (w.heap.size + 1 + 1) _ #[.int .u8 0, .int .u64 0] _ _ rfl F.out.2 Tryd.underlying50 rfl (by simpa using size2x)) rfl F.out.1
set_option maxRecDepth 8000 in
set_option maxHeartbeats 8000000 in
theorem do_wr5 {B sb mb : Nat} {pv : Nat → Value} {M : Me} {w : World} (x : Se) (hx : x.Ok) (hb : Blk w sb x.cells 26) (s : Mm B mb pv M w) (ap : Apt sb mb pv) (time me : Int) (a b d : Nat) (n : Int) (ha : a < 16) (hb16 : b < 16) (hn : -32768 ≤ n ∧ n ≤ 32767) (hk : n = 5) :
    Calls Tryd.prog 24 #[.agg (cpuA sb mb time me), .agg (opA 19 a b d n)] w (DoP B sb mb pv ⟨(wakeS (setS x 5 (x.r.getD a 0))).reg 16 (nxN x), M, 0, 0⟩ w) := by
  have D := Lib.hid (D0.new time me (opA 19 a b d n) hb s)
  have HPG := Lib.hid (fun g (h : PG pv g) => PG.lt s h)
  have hmb : mb < w.heap.size := s.c.lt
  have hwn : IntKind.i64.wrap n = n := by rw [IntKind.wrap_i64]; omega
  have hwk := kN_wrap n
  have hwx := nx_wrap x
  have KL := Lib.hid (kN_lt n)
  have NL := Lib.hid (nx_lt x)
  have hai : (a : Int) ≤ 15 := by omega
  have hbi : (b : Int) ≤ 15 := by omega
  have hai0 : 0 ≤ (a : Int) := by omega
  have hbi0 : 0 ≤ (b : Int) := by omega
  have hai1 : (a : Int) < 16 := by omega
  have hai2 : ¬ (a : Int) < 0 := by omega
  have hbi2 : ¬ (b : Int) < 0 := by omega
  have hbi1 : (b : Int) < 16 := by omega
  have G16 := Lib.hid (hx.gr (i := 16) (by decide))
  have GA := Lib.hid (hx.gr (i := a) (by omega))
  have GB := Lib.hid (hx.gr (i := b) (by omega))
  have HVA := Lib.hid (getD_lt hx a)
  have HVB := Lib.hid (getD_lt hx b)
  have HPC := Lib.hid (getD_lt hx 16)
  have SC := Lib.hid (fun W (hW : Blk W sb x.cells 26) => set5 x hx (x.r.getD a 0) (getD_lt hx a) sb W hW)
  rw [show (5 : Int) = n from hk.symm] at SC
  clear hk
  have OK2 := Lib.hid (setS_ok hx (k := 5) (getD_lt hx a))
  have WC := Lib.hid (fun W (hW : Blk W sb (setS x 5 (x.r.getD a 0)).cells 26) => wake_calls _ OK2.out sb W hW)
  have OK3 := Lib.hid (wake_ok OK2.out)
  clear hb s
  generalize kN n = kk at *
  generalize nxN x = nx at *
  generalize x.r.getD 16 0 = pc at *
  generalize x.r.getD a 0 = va at *
  generalize x.r.getD b 0 = vb at *
  unfold cpuA opA exitA at *
  go_enter Tryd.func24, Tryd.ntmps24
  go_upto_region 1 with (fail)
  generalize hw1 : ((w.alloc (.cells _ 67)).alloc _).alloc _ = w1 at *
  clear hw1
  have cc0 := D.out.c.cellAt (i := 0) rfl
  have oc0 := D.out.o.cellAt (i := 0) rfl
  have oc1 := D.out.o.cellAt (i := 1) rfl
  have oc2 := D.out.o.cellAt (i := 2) rfl
  have oc4 := D.out.o.cellAt (i := 4) rfl
  have s16 := D.out.s.cellAt G16.out
  have sA := D.out.s.cellAt GA.out
  have sB := D.out.s.cellAt GB.out
  have f16 := D.out.s.unfrozen 16
  have fA := D.out.s.unfrozen a
  go_upto_region 4 with (fail)
  go_quiet (fail)
  have D3 := Lib.hid (D.out.drewN nq)
  clear cc0 oc0 oc1 oc2 oc4 s16 sA sB f16 fA D
  generalize w1.drewN nq = w3 at *
  have cc0 := D3.out.c.cellAt (i := 0) rfl
  have oc0 := D3.out.o.cellAt (i := 0) rfl
  have oc1 := D3.out.o.cellAt (i := 1) rfl
  have s16 := D3.out.s.cellAt G16.out
  have sA := D3.out.s.cellAt GA.out
  have f16 := D3.out.s.unfrozen 16
  have fA := D3.out.s.unfrozen a
  have oc4 := D3.out.o.cellAt (i := 4) rfl
  go_upto_region 47 with (first
    | (go_at_call 40; refine (SC.out _ D3.out.s).mono ?_; rintro e w4 ⟨rfl, u4⟩; have D4 := Lib.hid (D3.out.d1.upd ap u4); clear u4)
    | (go_at_call 41; refine (WC.out _ D4.out.s).mono ?_; rintro e w5 ⟨rfl, u5⟩; have E1 := Lib.hid (D4.out.upd ap u5); clear u5))
  clear D3 D4 SC WC
  have OK1 := Lib.hid OK3.out
  have t16 := E1.out.s.cellAt (OK1.out.gr (i := 16) (by decide))
  have tf := E1.out.s.unfrozen 16
  have E2 := Lib.hid (E1.out.reg ap OK1.out (a := 16) (by decide) nx)
  have e0 := E2.out.e.cellAt (i := 0) rfl
  have e1 := E2.out.e.cellAt (i := 1) rfl
  have ef0 := E2.out.e.unfrozen 0
  have ef1 := E2.out.e.unfrozen 1
  have F := Lib.hid (E2.out.fin HPG.out hmb 0 0)
  clear E1 E2
  go_wp2
  refine bodyPost_ret (v := .agg #[.int .u8 0, .int .u64 0]) (results_cell_row Tryd.results24 _ _ (w.heap.size + 1 + 1) _ #[.int .u8 0, .int .u64 0] _ _ rfl F.out.2 Tryd.underlying50 rfl (by simpa using size2x)) rfl F.out.1
set_option maxRecDepth 8000 in
set_option maxHeartbeats 8000000 in
theorem do_wr6 {B sb mb : Nat} {pv : Nat → Value} {M : Me} {w : World} (x : Se) (hx : x.Ok) (hb : Blk w sb x.cells 26) (s : Mm B mb pv M w) (ap : Apt sb mb pv) (time me : Int) (a b d : Nat) (n : Int) (ha : a < 16) (hb16 : b < 16) (hn : -32768 ≤ n ∧ n ≤ 32767) (hk : n = 6) :
    Calls Tryd.prog 24 #[.agg (cpuA sb mb time me), .agg (opA 19 a b d n)] w (DoP B sb mb pv ⟨(wakeS (setS x 6 (x.r.getD a 0))).reg 16 (nxN x), M, 0, 0⟩ w) := by
  have D := Lib.hid (D0.new time me (opA 19 a b d n) hb s)
  have HPG := Lib.hid (fun g (h : PG pv g) => PG.lt s h)
  have hmb : mb < w.heap.size := s.c.lt
  have hwn : IntKind.i64.wrap n = n := by rw [IntKind.wrap_i64]; omega
  have hwk := kN_wrap n
  have hwx := nx_wrap x
  have KL := Lib.hid (kN_lt n)
  have NL := Lib.hid (nx_lt x)
  have hai : (a : Int) ≤ 15 := by omega
  have hbi : (b : Int) ≤ 15 := by omega
  have hai0 : 0 ≤ (a : Int) := by omega
  have hbi0 : 0 ≤ (b : Int) := by omega
  have hai1 : (a : Int) < 16 := by omega
  have hai2 : ¬ (a : Int) < 0 := by omega
  have hbi2 : ¬ (b : Int) < 0 := by omega
  have hbi1 : (b : Int) < 16 := by omega
  have G16 := Lib.hid (hx.gr (i := 16) (by decide))
  have GA := Lib.hid (hx.gr (i := a) (by omega))
  have GB := Lib.hid (hx.gr (i := b) (by omega))
  have HVA := Lib.hid (getD_lt hx a)
  have HVB := Lib.hid (getD_lt hx b)
  have HPC := Lib.hid (getD_lt hx 16)
  have SC := Lib.hid (fun W (hW : Blk W sb x.cells 26) => set6 x hx (x.r.getD a 0) (getD_lt hx a) sb W hW)
  rw [show (6 : Int) = n from hk.symm] at SC
  clear hk
  have OK2 := Lib.hid (setS_ok hx (k := 6) (getD_lt hx a))
  have WC := Lib.hid (fun W (hW : Blk W sb (setS x 6 (x.r.getD a 0)).cells 26) => wake_calls _ OK2.out sb W hW)
  have OK3 := Lib.hid (wake_ok OK2.out)
  clear hb s
  generalize kN n = kk at *
  generalize nxN x = nx at *
  generalize x.r.getD 16 0 = pc at *
  generalize x.r.getD a 0 = va at *
  generalize x.r.getD b 0 = vb at *
  unfold cpuA opA exitA at *
  go_enter Tryd.func24, Tryd.ntmps24
  go_upto_region 1 with (fail)
  generalize hw1 : ((w.alloc (.cells _ 67)).alloc _).alloc _ = w1 at *
  clear hw1
  have cc0 := D.out.c.cellAt (i := 0) rfl
  have oc0 := D.out.o.cellAt (i := 0) rfl
  have oc1 := D.out.o.cellAt (i := 1) rfl
  have oc2 := D.out.o.cellAt (i := 2) rfl
  have oc4 := D.out.o.cellAt (i := 4) rfl
  have s16 := D.out.s.cellAt G16.out
  have sA := D.out.s.cellAt GA.out
  have sB := D.out.s.cellAt GB.out
  have f16 := D.out.s.unfrozen 16
  have fA := D.out.s.unfrozen a
  go_upto_region 4 with (fail)
  go_quiet (fail)
  have D3 := Lib.hid (D.out.drewN nq)
  clear cc0 oc0 oc1 oc2 oc4 s16 sA sB f16 fA D
  generalize w1.drewN nq = w3 at *
  have cc0 := D3.out.c.cellAt (i := 0) rfl
  have oc0 := D3.out.o.cellAt (i := 0) rfl
  have oc1 := D3.out.o.cellAt (i := 1) rfl
  have s16 := D3.out.s.cellAt G16.out
  have sA := D3.out.s.cellAt GA.out
  have f16 := D3.out.s.unfrozen 16
  have fA := D3.out.s.unfrozen a
  have oc4 := D3.out.o.cellAt (i := 4) rfl
  go_upto_region 47 with (first
    | (go_at_call 40; refine (SC.out _ D3.out.s).mono ?_; rintro e w4 ⟨rfl, u4⟩; have D4 := Lib.hid (D3.out.d1.upd ap u4); clear u4)
    | (go_at_call 41; refine (WC.out _ D4.out.s).mono ?_; rintro e w5 ⟨rfl, u5⟩; have E1 := Lib.hid (D4.out.upd ap u5); clear u5))
  clear D3 D4 SC WC
  have OK1 := Lib.hid OK3.out
  have t16 := E1.out.s.cellAt (OK1.out.gr (i := 16) (by decide))
  have tf := E1.out.s.unfrozen 16
  have E2 := Lib.hid (E1.out.reg ap OK1.out (a := 16) (by decide) nx)
  have e0 := E2.out.e.cellAt (i := 0) rfl
  have e1 := E2.out.e.cellAt (i := 1) rfl
  have ef0 := E2.out.e.unfrozen 0
  have ef1 := E2.out.e.unfrozen 1
  have F := Lib.hid (E2.out.fin HPG.out hmb 0 0)
  clear E1 E2
  go_wp2
  refine bodyPost_ret (v := .agg #[.int .u8 0, .int .u64 0]) (results_cell_row Tryd.results24 _ _ (w.heap.size + 1 + 1) _ #[.int .u8 0, .int .u64 0] _ _ rfl F.out.2 Tryd.underlying50 rfl (by simpa using size2x)) rfl F.out.1
set_option maxRecDepth 8000 in
set_option maxHeartbeats 8000000 in
theorem do_wrBad {B sb mb : Nat} {pv : Nat → Value} {M : Me} {w : World} (x : Se) (hx : x.Ok) (hb : Blk w sb x.cells 26) (s : Mm B mb pv M w) (ap : Apt sb mb pv) (time me : Int) (a b d : Nat) (n : Int) (ha : a < 16) (hb16 : b < 16) (hn : -32768 ≤ n ∧ n ≤ 32767) (hk : ¬ (0 ≤ n ∧ n ≤ 6)) :
    Calls Tryd.prog 24 #[.agg (cpuA sb mb time me), .agg (opA 19 a b d n)] w (DoP B sb mb pv ⟨trapS x 1 (x.r.getD 16 0), M, trapK (trapS x 1 (x.r.getD 16 0)), 1⟩ w) := by
  have D := Lib.hid (D0.new time me (opA 19 a b d n) hb s)
  have HPG := Lib.hid (fun g (h : PG pv g) => PG.lt s h)
  have hmb : mb < w.heap.size := s.c.lt
  have hwn : IntKind.i64.wrap n = n := by rw [IntKind.wrap_i64]; omega
  have hwk := kN_wrap n
  have hwx := nx_wrap x
  have KL := Lib.hid (kN_lt n)
  have NL := Lib.hid (nx_lt x)
  have hai : (a : Int) ≤ 15 := by omega
  have hbi : (b : Int) ≤ 15 := by omega
  have hai0 : 0 ≤ (a : Int) := by omega
  have hbi0 : 0 ≤ (b : Int) := by omega
  have hai1 : (a : Int) < 16 := by omega
  have hai2 : ¬ (a : Int) < 0 := by omega
  have hbi2 : ¬ (b : Int) < 0 := by omega
  have hbi1 : (b : Int) < 16 := by omega
  have G16 := Lib.hid (hx.gr (i := 16) (by decide))
  have GA := Lib.hid (hx.gr (i := a) (by omega))
  have GB := Lib.hid (hx.gr (i := b) (by omega))
  have HVA := Lib.hid (getD_lt hx a)
  have HVB := Lib.hid (getD_lt hx b)
  have HPC := Lib.hid (getD_lt hx 16)
  have SC := Lib.hid (fun W => set_out n ((x.r.getD a 0 : Nat) : Int) hk sb W)
  have TC := Lib.hid (fun W (hW : Blk W sb x.cells 26) => ctrap_calls mb x hx hW time me 1 (x.r.getD 16 0) (by decide) (getD_lt hx 16))
  unfold cpuA exitA at TC
  generalize trapK (trapS x 1 (x.r.getD 16 0)) = tk at *
  clear hb s
  generalize kN n = kk at *
  generalize nxN x = nx at *
  generalize x.r.getD 16 0 = pc at *
  generalize x.r.getD a 0 = va at *
  generalize x.r.getD b 0 = vb at *
  unfold cpuA opA exitA at *
  go_enter Tryd.func24, Tryd.ntmps24
  go_upto_region 1 with (fail)
  generalize hw1 : ((w.alloc (.cells _ 67)).alloc _).alloc _ = w1 at *
  clear hw1
  have cc0 := D.out.c.cellAt (i := 0) rfl
  have oc0 := D.out.o.cellAt (i := 0) rfl
  have oc1 := D.out.o.cellAt (i := 1) rfl
  have oc2 := D.out.o.cellAt (i := 2) rfl
  have oc4 := D.out.o.cellAt (i := 4) rfl
  have s16 := D.out.s.cellAt G16.out
  have sA := D.out.s.cellAt GA.out
  have sB := D.out.s.cellAt GB.out
  have f16 := D.out.s.unfrozen 16
  have fA := D.out.s.unfrozen a
  go_upto_region 4 with (fail)
  go_quiet (fail)
  have D3 := Lib.hid (D.out.drewN nq)
  clear cc0 oc0 oc1 oc2 oc4 s16 sA sB f16 fA D
  generalize w1.drewN nq = w3 at *
  have cc0 := D3.out.c.cellAt (i := 0) rfl
  have oc0 := D3.out.o.cellAt (i := 0) rfl
  have oc1 := D3.out.o.cellAt (i := 1) rfl
  have s16 := D3.out.s.cellAt G16.out
  have sA := D3.out.s.cellAt GA.out
  have f16 := D3.out.s.unfrozen 16
  have fA := D3.out.s.unfrozen a
  have oc4 := D3.out.o.cellAt (i := 4) rfl
  go_upto_region 33 with (go_at_call 40; refine (SC.out _).mono ?_; rintro e w4 ⟨rfl, h4⟩; subst h4)
  have D4 := Lib.hid (D3.out.drewN 1)
  have dr := range_all D4.out.c
  clear D3
  refine wp_region_still_tail 5 (by kernel_rfl) (by kernel_rfl) ?_
  simp only [List.take_succ_cons, List.take_zero, List.drop_succ_cons, List.drop_zero]
  refine wpStill_load_mid rfl 67 (.tmp 2) rfl w.heap.size 0 rfl _ _ dr Tryd.underlying67 rfl size4c ?_
  repeat still_step
  refine wpStill_nil ?_
  change wpList _ _ _ _ _ (World.drewN _ 1)
  go_wp2_with (go_at_call 21; refine (TC.out _ D4.out.s).mono ?_; rintro e w5 ⟨rfl, u5⟩; have E2 := Lib.hid (D4.out.d1.upd ap u5); have g0 := E2.out.e.cellAt (i := 0) rfl; have g1 := E2.out.e.cellAt (i := 1) rfl; have gf0 := E2.out.e.unfrozen 0; have gf1 := E2.out.e.unfrozen 1; clear u5)
  have F := Lib.hid (E2.out.fin HPG.out hmb tk 1)
  refine bodyPost_ret (v := .agg #[.int .u8 (tk : Int), .int .u64 1]) (results_cell_row Tryd.results24 _ _ (w.heap.size + 1 + 1) _ #[.int .u8 (tk : Int), .int .u64 1] _ _ rfl F.out.2 Tryd.underlying50 rfl (by simpa using size2x)) rfl F.out.1
end Go.Proofs.YtjlodddlbgpcdaaDoor.Walks
