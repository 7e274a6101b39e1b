/- Walks through the functions of the statement, and the statement over them: each contract says what the call answers and that nothing else changes. -/
import Derived.Test.YtjlodddlbgpcdaaDoorProg
import Derived.Test.YtjlodddlbgpcdaaDoorBits
import Derived.Test.YtjlodddlbgpcdaaDoorHeap
import Derived.Test.YtjlodddlbgpcdaaDoorAid
import Derived.Test.YtjlodddlbgpcdaaDoorArr
import Derived.Test.YtjlodddlbgpcdaaDoorEql
import Derived.Test.YtjlodddlbgpcdaaDoorWalkBase
import Derived.Test.YtjlodddlbgpcdaaDoorWalkCode
import Derived.Test.YtjlodddlbgpcdaaDoorWalkSeat
import Derived.Test.YtjlodddlbgpcdaaDoorWalkRef
import Derived.Test.YtjlodddlbgpcdaaDoorWalkRefR
import Derived.Test.YtjlodddlbgpcdaaDoorWalkBus
import Derived.Test.YtjlodddlbgpcdaaDoorWalkBus2
import Derived.Test.YtjlodddlbgpcdaaDoorWalkRefP
import Derived.Test.YtjlodddlbgpcdaaDoorWalkRefG
import Derived.Test.YtjlodddlbgpcdaaDoorWalkRefL
import Derived.Test.YtjlodddlbgpcdaaDoorWalkDo
import Derived.Test.YtjlodddlbgpcdaaDoorWalkDo2
import Derived.Test.YtjlodddlbgpcdaaDoorWalkStep
import Derived.Test.YtjlodddlbgpcdaaDoorWalkSome
import Derived.Test.YtjlodddlbgpcdaaDoorWalkAwake
import Derived.Test.YtjlodddlbgpcdaaDoorWalkNil
import Derived.Test.YtjlodddlbgpcdaaDoorWalkPl
import Derived.Test.YtjlodddlbgpcdaaDoorWalkRs0
import Derived.Test.YtjlodddlbgpcdaaDoorWalkRs1
import Derived.Test.YtjlodddlbgpcdaaDoorWalkRs2
import Derived.Test.YtjlodddlbgpcdaaDoorWalkRs3
import Derived.Test.YtjlodddlbgpcdaaDoorWalkRs4
import Derived.Test.YtjlodddlbgpcdaaDoorWalkRsA
import Derived.Lib.Hide
import Derived.WalkKit
import Derived.WalkSpells
import Derived.WalkLawsBesides
import Derived.Deep.QuietTactic
import Derived.BigQuiet
import Derived.Deep.RegionHeld3
import Derived.Deep.DeepCutAuto
import Derived.Deep.CutBlock
import Derived.Lib.SlBytesConst
import Derived.StillTailTactics
import Derived.RegionTactic
import Derived.Deep.RegionLaw
import Derived.Laws.BytesString
import Derived.Laws.MakeOwn
import Derived.Deep.AppendLies
import Derived.Laws.CopyOwn
import Derived.Maps.AppendAt
import Derived.Deep.Upon
import Derived.Deep.AppendSrc
import Derived.Shelf.Abstract
import Derived.Shelf.Spec.TrailingZeros
namespace Go.Proofs.YtjlodddlbgpcdaaDoor.Walks
set_option linter.unusedVariables false
set_option linter.unusedSimpArgs false
open Go.RowKit Go.Proofs.YtjlodddlbgpcdaaDoor.Bits Go.Proofs.YtjlodddlbgpcdaaDoor.Heap Go.Proofs.YtjlodddlbgpcdaaDoor.Aid Go.Proofs.YtjlodddlbgpcdaaDoor.Arr Go.Proofs.YtjlodddlbgpcdaaDoor.Eql

set_option maxRecDepth 8000 in
set_option maxHeartbeats 8000000 in
theorem both_calls {ma mb : Nat} {pa pb : Nat → Value} {M : Me} {w0 w : World} (x : Se) (hx : x.Ok) (h8 : x.Ok8) (s : S2 ma mb pa pb M M w0 w) (time me : Int) (ht : 0 ≤ time ∧ time < 18446744073709551616) (hT : TabAt 0 Lib.deBruijn64tab w) (h0 : 0 < w0.heap.size) :
    Calls Tryd.prog 15 #[.agg x.cells.toArray, .pointer (some ⟨ma, 0, none⟩), .pointer (some ⟨mb, 0, none⟩), .int .u64 time, .int .i64 me] w (BothP ma mb pa pb (stepL x M time me) w0 w) := by
  have O1 := Lib.hid (Bo.new x s)
  have HT := Lib.hid hT
  have HX := Lib.hid hx
  have hpa : Hid (¬ PG pa 0) := s.pg0 h0
  have hpb : Hid (¬ PG pb 0) := s.swap.pg0 h0
  have AO := Lib.hid (stepL_ok hx h8 s.a.x time me ht)
  have SA := Lib.hid (fun W (h : Bo ma mb pa pb x x M M w0 w W) (hTW : TabAt 0 Lib.deBruijn64tab W) => step_calls x hx h.t h.s.a ⟨fun e => (h.not (g := w.heap.size + 1 + 1) (by omega)).1 (.inl e), fun e => (h.not (g := w.heap.size + 1 + 1) (by omega)).1 (.inr e)⟩ time me ht hTW (by omega) hpa.out)
  have SB := Lib.hid (fun W (h : Mm w0.heap.size mb pb M W) => refStep_calls x hx h8 h time me ht)
  have hz := zero_val
  have HZL := Lib.hid zero_ok.len
  have I0 := Lib.hid (info_se hx)
  have XL := Lib.hid hx.len
  have XO := Lib.hid (Se.one x)
  have hzs : zeroSe.cells.toArray.size = 26 := by simpa using HZL.out
  have hzn : ¬ zeroSe.cells.toArray = #[] := fun h => by rw [h] at hzs; simp at hzs
  unfold BothP
  clear s hx h8 ht hT h0
  generalize stepL x M time me = o at *
  go_enter Tryd.func15, Tryd.ntmps15
  go_upto_region 1 with (fail)
  have RC := Lib.hid (range_all ((Blk.new w x.cells.toArray 26).alloc (.cells zeroSe.cells.toArray 26)))
  go_upto_region 2 with (first
    | (refine wpList_load_mid rfl 26 (.tmp 5) rfl w.heap.size 0 rfl x.cells _ RC.out Tryd.underlying26 rfl I0.out ?_)
    | (refine wpList_store_mid rfl 26 (.tmp 12) (.tmp 17) rfl (w.heap.size + 1 + 1) 0 x.cells.toArray rfl rfl (there_of_blk O1.out.t ?s1) ?s2 ?s3 ?_))
  case s1 => have h1 := HZL.out; have h2 := XL.out; simp; omega
  case s2 => simpa using I0.out
  case s3 => first | exact XO.out | exact all_oneCell_toArray XO.out
  have O2 := Lib.hid (O1.out.setT zero_ok HX.out)
  clear O1 RC
  generalize World.setCells _ _ _ _ = w2 at *
  have T2 := Lib.hid (tab_keep HT.out O2.out.k (fun e => by rcases e with e | e; exact hpa.out e; exact hpb.out e))
  have SA2 := Lib.hid (SA.out _ O2.out T2.out)
  clear SA T2 HT
  go_upto_region 3 with (go_at_call 16; refine SA2.out.mono ?_; rintro e w3 ⟨rfl, d2, d3, d4⟩; have O3 := Lib.hid (O2.out.doA (o := o) (e := .returned (.agg (exitA (o.k : Int) (o.n : Int)))) ⟨rfl, d2, d3, d4⟩); clear d2 d3 d4; rw [show exitA (o.k : Int) (o.n : Int) = #[.int .u8 (o.k : Int), .int .u64 (o.n : Int)] from rfl])
  clear SA2 O2
  have E4 := Lib.hid (Blk.new w3 #[.int .u8 (o.k : Int), .int .u64 (o.n : Int)] 50)
  have O4 := Lib.hid (O3.out.step ((Below.refl w3.heap.size w3).alloc (Nat.le_refl _) (.cells #[.int .u8 (o.k : Int), .int .u64 (o.n : Int)] 50)))
  have NE := Lib.hid (show w.heap.size + 1 + 1 < w3.heap.size from O3.out.t.lt)
  clear O3
  generalize w3.alloc _ = w4 at *
  generalize w3.heap.size = ne at *
  have SB4 := Lib.hid (SB.out _ O4.out.s.b)
  clear SB
  have YL := Lib.hid AO.out.1.len
  have I1 := Lib.hid (info_se AO.out.1)
  have YO := Lib.hid (Se.one o.x)
  go_upto_region 4 with (first
    | (refine wpList_load_mid rfl 26 (.tmp 5) rfl w.heap.size 0 rfl x.cells _ (range_all O4.out.c) Tryd.underlying26 rfl I0.out ?_)
    | (go_at_call 18; refine SB4.out.mono ?_; rintro e w5 ⟨rfl, d2, d3⟩; have O5 := Lib.hid (O4.out.doB (o := o) (e := .returned (.tuple #[.agg o.x.cells.toArray, .int .u8 (o.k : Int), .int .u64 (o.n : Int)])) ⟨rfl, d2, d3⟩); have E5 := Lib.hid (E4.out.keep d3 (fun q => by have := O4.out.pb q; have := NE.out; omega)); clear d2 d3; have N5 := Lib.hid (Blk.new w5 zeroSe.cells.toArray 26))
    | (refine wpList_store_mid rfl 26 (.tmp 14) (.tmp 30) rfl w5.heap.size 0 o.x.cells.toArray rfl rfl (there_of_blk N5.out ?s1) ?s2 ?s3 ?_))
  case s1 => have h1 := HZL.out; have h2 := YL.out; simp; omega
  case s2 => simpa using I1.out
  case s3 => first | exact YO.out | exact all_oneCell_toArray YO.out
  have B6 := Lib.hid (below_setCells ((Below.refl w5.heap.size w5).alloc (Nat.le_refl _) (.cells zeroSe.cells.toArray 26)) (Nat.le_refl _) 0 o.x.cells)
  have T6 := Lib.hid (blk_setAll N5.out (vs := o.x.cells) (show o.x.cells.length = zeroSe.cells.length by rw [YL.out, HZL.out]))
  have O6 := Lib.hid (O5.out.step B6.out)
  have NE5 := Lib.hid (show w.heap.size + 1 + 1 < w5.heap.size from O5.out.t.lt)
  have E6 := Lib.hid (E5.out.below B6.out E5.out.lt)
  clear SB4 O4 E4 O5 E5 N5 B6 hzs hzn hz
  generalize World.setCells _ _ _ _ = w6 at *
  generalize w5.heap.size = nt at *
  -- region 4
  have EQ := fun W => (eql_same (P := Tryd.prog) (w := W) (w0 := W) (n := 3) (t := 26) (s := seSh) (by kernel_rfl) (by omega) (by kernel_rfl) (AO.out.1.fits W)).1
  have O7 := Lib.hid (show Bo ma mb pa pb x o.x o.M o.M w0 w (w6.drewN 1) from O6.out.step (below_drewN (Below.refl _ _) 1))
  have SM := Lib.hid (mem_same O7.out.s.a O7.out.s.b)
  have hS : ((fun w' => Blk w' (w.heap.size + 1 + 1) o.x.cells 26 ∧ Blk w' nt o.x.cells 26 ∧ Blk w' ne [.int .u8 (o.k : Int), .int .u64 (o.n : Int)] 50) : World → Prop) (w6.drewN 1) := ⟨O7.out.t, T6.out.drewN 1, E6.out.drewN 1⟩
  refine wp_region_held_drew (S := fun w' => Blk w' (w.heap.size + 1 + 1) o.x.cells 26 ∧ Blk w' nt o.x.cells 26 ∧ Blk w' ne [.int .u8 (o.k : Int), .int .u64 (o.n : Int)] 50) (by kernel_rfl) hS (fun hHeld => ?_)
  refine wpAnyH_take (i := 0) (oi := ⟨some 33, _, _, _, _, _⟩) rfl (by kernel_rfl) (by kernel_rfl) (by kernel_rfl) (fun _ _ _ h => h) (yieldsIf_load_mid (by rfl) 26 (.tmp 12) rfl (w.heap.size + 1 + 1) 0 rfl o.x.cells _ (fun _ h => range_all h.1) Tryd.underlying26 rfl I1.out) (by assumption) ?_
  try simp only [Act.put, List.setIfInBounds_toArray, List.set_cons_zero, List.set_cons_succ]
  refine wpAnyH_take (i := 1) (oi := ⟨some 34, _, _, _, _, _⟩) rfl (by kernel_rfl) (by kernel_rfl) (by kernel_rfl) (fun _ _ _ h => h) (yieldsIf_load_mid (by rfl) 26 (.tmp 12) rfl (w.heap.size + 1 + 1) 0 rfl o.x.cells _ (fun _ h => range_all h.1) Tryd.underlying26 rfl I1.out) (by assumption) ?_
  try simp only [Act.put, List.setIfInBounds_toArray, List.set_cons_zero, List.set_cons_succ]
  refine wpAnyH_take (i := 2) (oi := ⟨some 35, _, _, _, _, _⟩) rfl (by kernel_rfl) (by kernel_rfl) (by kernel_rfl) (fun _ _ _ h => h) (yieldsIf_load_mid (by rfl) 26 (.tmp 14) rfl nt 0 rfl o.x.cells _ (fun _ h => range_all h.2.1) Tryd.underlying26 rfl I1.out) (by assumption) ?_
  try simp only [Act.put, List.setIfInBounds_toArray, List.set_cons_zero, List.set_cons_succ]
  refine wpAnyH_take (i := 3) (oi := ⟨some 36, _, _, _, _, _⟩) (v := .bool true) rfl (by kernel_rfl) (by kernel_rfl) (by kernel_rfl) (fun _ _ _ h => h) (Or.inl ⟨by rfl, fun w' hSw => by have q := EQ w'; go_simp⟩) (by assumption) ?_
  try simp only [Act.put, List.setIfInBounds_toArray, List.set_cons_zero, List.set_cons_succ]
  refine wpAnyH_take (i := 4) (oi := ⟨some 37, _, _, _, _, _⟩) (v := .bool true) rfl (by kernel_rfl) (by kernel_rfl) (by kernel_rfl) (fun _ _ _ h => h) (Or.inl ⟨by rfl, fun w' hSw => by go_simp⟩) (by assumption) ?_
  try simp only [Act.put, List.setIfInBounds_toArray, List.set_cons_zero, List.set_cons_succ]
  refine wpAnyH_take (i := 5) (oi := ⟨some 38, _, _, _, _, _⟩) (v := .pointer (some ⟨ne, 0, none⟩)) rfl (by kernel_rfl) (by kernel_rfl) (by kernel_rfl) (fun _ _ _ h => h) (Or.inl ⟨by rfl, fun w' hSw => by go_simp⟩) (by assumption) ?_
  try simp only [Act.put, List.setIfInBounds_toArray, List.set_cons_zero, List.set_cons_succ]
  refine wpAnyH_take (i := 6) (oi := ⟨some 39, _, _, _, _, _⟩) (v := .int .u8 (o.k : Int)) rfl (by kernel_rfl) (by kernel_rfl) (by kernel_rfl) (fun _ _ _ h => h) (Or.inl ⟨by rfl, fun w' hSw => by have q0 := hSw.2.2.cellAt (i := 0) rfl; go_simp⟩) (by assumption) ?_
  try simp only [Act.put, List.setIfInBounds_toArray, List.set_cons_zero, List.set_cons_succ]
  refine wpAnyH_take (i := 7) (oi := ⟨some 40, _, _, _, _, _⟩) (v := .int .u8 (o.k : Int)) rfl (by kernel_rfl) (by kernel_rfl) (by kernel_rfl) (fun _ _ _ h => h) (Or.inl ⟨by rfl, fun w' hSw => by go_simp⟩) (by assumption) ?_
  try simp only [Act.put, List.setIfInBounds_toArray, List.set_cons_zero, List.set_cons_succ]
  refine wpAnyH_take (i := 8) (oi := ⟨some 41, _, _, _, _, _⟩) (v := .bool true) rfl (by kernel_rfl) (by kernel_rfl) (by kernel_rfl) (fun _ _ _ h => h) (Or.inl ⟨by rfl, fun w' hSw => by go_simp⟩) (by assumption) ?_
  try simp only [Act.put, List.setIfInBounds_toArray, List.set_cons_zero, List.set_cons_succ]
  refine wpAnyH_take (i := 9) (oi := ⟨some 42, _, _, _, _, _⟩) (v := .bool true) rfl (by kernel_rfl) (by kernel_rfl) (by kernel_rfl) (fun _ _ _ h => h) (Or.inl ⟨by rfl, fun w' hSw => by go_simp⟩) (by assumption) ?_
  try simp only [Act.put, List.setIfInBounds_toArray, List.set_cons_zero, List.set_cons_succ]
  refine wpAnyH_take (i := 10) (oi := ⟨some 43, _, _, _, _, _⟩) (v := .bool true) rfl (by kernel_rfl) (by kernel_rfl) (by kernel_rfl) (fun _ _ _ h => h) (Or.inl ⟨by rfl, fun w' hSw => by go_simp⟩) (by assumption) ?_
  try simp only [Act.put, List.setIfInBounds_toArray, List.set_cons_zero, List.set_cons_succ]
  refine wpAnyH_take (i := 11) (oi := ⟨some 44, _, _, _, _, _⟩) (v := .pointer (some ⟨ne, 1, none⟩)) rfl (by kernel_rfl) (by kernel_rfl) (by kernel_rfl) (fun _ _ _ h => h) (Or.inl ⟨by rfl, fun w' hSw => by go_simp⟩) (by assumption) ?_
  try simp only [Act.put, List.setIfInBounds_toArray, List.set_cons_zero, List.set_cons_succ]
  refine wpAnyH_take (i := 12) (oi := ⟨some 45, _, _, _, _, _⟩) (v := .int .u64 (o.n : Int)) rfl (by kernel_rfl) (by kernel_rfl) (by kernel_rfl) (fun _ _ _ h => h) (Or.inl ⟨by rfl, fun w' hSw => by have q1 := hSw.2.2.cellAt (i := 1) rfl; go_simp⟩) (by assumption) ?_
  try simp only [Act.put, List.setIfInBounds_toArray, List.set_cons_zero, List.set_cons_succ]
  refine wpAnyH_take (i := 13) (oi := ⟨some 46, _, _, _, _, _⟩) (v := .int .u64 (o.n : Int)) rfl (by kernel_rfl) (by kernel_rfl) (by kernel_rfl) (fun _ _ _ h => h) (Or.inl ⟨by rfl, fun w' hSw => by go_simp⟩) (by assumption) ?_
  try simp only [Act.put, List.setIfInBounds_toArray, List.set_cons_zero, List.set_cons_succ]
  refine wpAnyH_take (i := 14) (oi := ⟨some 47, _, _, _, _, _⟩) (v := .bool true) rfl (by kernel_rfl) (by kernel_rfl) (by kernel_rfl) (fun _ _ _ h => h) (Or.inl ⟨by rfl, fun w' hSw => by go_simp⟩) (by assumption) ?_
  try simp only [Act.put, List.setIfInBounds_toArray, List.set_cons_zero, List.set_cons_succ]
  refine wpAnyH_take (i := 15) (oi := ⟨some 48, _, _, _, _, _⟩) (v := .bool true) rfl (by kernel_rfl) (by kernel_rfl) (by kernel_rfl) (fun _ _ _ h => h) (Or.inl ⟨by rfl, fun w' hSw => by go_simp⟩) (by assumption) ?_
  try simp only [Act.put, List.setIfInBounds_toArray, List.set_cons_zero, List.set_cons_succ]
  refine wpAnyH_take (i := 16) (oi := ⟨some 49, _, _, _, _, _⟩) (v := .bool true) rfl (by kernel_rfl) (by kernel_rfl) (by kernel_rfl) (fun _ _ _ h => h) (Or.inl ⟨by rfl, fun w' hSw => by go_simp⟩) (by assumption) ?_
  try simp only [Act.put, List.setIfInBounds_toArray, List.set_cons_zero, List.set_cons_succ]
  refine wpAnyH_take (i := 17) (oi := ⟨some 50, _, _, _, _, _⟩) (v := .pointer (some ⟨ma, 0, none⟩)) rfl (by kernel_rfl) (by kernel_rfl) (by kernel_rfl) (fun _ _ _ h => h) (Or.inl ⟨by rfl, fun w' hSw => by go_simp⟩) (by assumption) ?_
  try simp only [Act.put, List.setIfInBounds_toArray, List.set_cons_zero, List.set_cons_succ]
  refine wpAnyH_take (i := 18) (oi := ⟨some 51, _, _, _, _, _⟩) (v := .pointer (some ⟨mb, 0, none⟩)) rfl (by kernel_rfl) (by kernel_rfl) (by kernel_rfl) (fun _ _ _ h => h) (Or.inl ⟨by rfl, fun w' hSw => by go_simp⟩) (by assumption) ?_
  try simp only [Act.put, List.setIfInBounds_toArray, List.set_cons_zero, List.set_cons_succ]
  refine wpAnyH_ready (rs := [19]) (by kernel_rfl) (by simp) ?_
  refine AllReadyH.cons rfl (fun K hK => ?_) AllReadyH.nil
  go_simp
  go_at_call 19
  refine SM.out.mono ?_
  rintro e w7 ⟨rfl, b7⟩
  have O8 := Lib.hid (O7.out.step b7)
  have T8 := Lib.hid ((T6.out.drewN 1).below b7 (T6.out.drewN 1).lt)
  have E8 := Lib.hid ((E6.out.drewN 1).below b7 (E6.out.drewN 1).lt)
  clear b7
  try dsimp only
  refine hK.out _ _ ⟨O8.out.t, T8.out, E8.out⟩ (fun hHeld => ?_)
  clear hK K
  try simp only [Act.put, List.setIfInBounds_toArray, List.set_cons_zero, List.set_cons_succ]
  refine wpAnyH_take (i := 20) (oi := ⟨some 53, _, _, _, _, _⟩) (v := .bool true) rfl (by kernel_rfl) (by kernel_rfl) (by kernel_rfl) (fun _ _ _ h => h) (Or.inl ⟨by rfl, fun w' hSw => by go_simp⟩) (by assumption) ?_
  try simp only [Act.put, List.setIfInBounds_toArray, List.set_cons_zero, List.set_cons_succ]
  refine wpAnyH_ready (rs := [21]) (by kernel_rfl) (by simp) ?_
  refine AllReadyH.cons rfl (fun K hK => ?_) AllReadyH.nil
  rw [if_pos (by rfl)]
  have F := Lib.hid (O8.out.fin AO.out.1)
  have NT := Lib.hid NE5.out
  refine wp_store_mid 26 (.tmp 10) (.tmp 33) rfl (w.heap.size + 1) 0 o.x.cells.toArray rfl rfl (there_of_blk O8.out.z ?s4) ?s5 ?s6 ?_
  case s4 => have h1 := HZL.out; have h2 := YL.out; simp; omega
  case s5 => simpa using I1.out
  case s6 => first | exact YO.out | exact all_oneCell_toArray YO.out
  refine hK.out _ _ ⟨blk_setOther O8.out.t (by omega) 0 _, blk_setOther T8.out (by have := NT.out; omega) 0 _, blk_setOther E8.out (by have := NE.out; omega) 0 _⟩ (fun hHeld => ?_)
  clear hK K
  try simp only [Act.put, List.setIfInBounds_toArray, List.set_cons_zero, List.set_cons_succ]
  refine wpAnyH_take (i := 22) (oi := ⟨some 11, _, _, _, _, _⟩) (v := .bool true) rfl (by kernel_rfl) (by kernel_rfl) (by kernel_rfl) (fun _ _ _ h => h) (Or.inl ⟨by rfl, fun w' hSw => by go_simp⟩) (by assumption) ?_
  try simp only [Act.put, List.setIfInBounds_toArray, List.set_cons_zero, List.set_cons_succ]
  refine wpAnyH_done (by kernel_rfl) ?_ _
  try simp only [Act.put, List.setIfInBounds_toArray, List.set_cons_zero, List.set_cons_succ]
  go_wp2
  refine bodyPost_ret (v := .tuple #[.agg o.x.cells.toArray, .bool true]) (results_ct Tryd.results15 _ _ (w.heap.size + 1) o.x.cells _ rfl F.out.2 Tryd.underlying26 rfl I1.out) rfl ⟨rfl, F.out.1⟩
end Go.Proofs.YtjlodddlbgpcdaaDoor.Walks
