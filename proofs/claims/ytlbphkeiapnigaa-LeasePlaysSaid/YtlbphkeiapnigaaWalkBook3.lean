/- Walks through the functions of the statement, and the statement over them: each contract says what the call answers and that nothing else changes. -/
import Derived.Test.YtlbphkeiapnigaaProg
import Derived.Test.YtlbphkeiapnigaaBits
import Derived.Test.YtlbphkeiapnigaaHeap
import Derived.Test.YtlbphkeiapnigaaAid
import Derived.Lib.Hide
import Derived.Test.YtlbphkeiapnigaaArr
import Derived.Test.YtlbphkeiapnigaaEql
import Derived.Test.YtlbphkeiapnigaaWalkBook2
import Derived.WalkKit
import Derived.WalkSpells
import Derived.WalkLawsBesides
import Derived.Deep.QuietTactic
import Derived.BigQuiet
import Derived.Deep.RegionHeld3
import Derived.Deep.DeepCutAuto
import Derived.Deep.CutBlock
import Derived.Lib.SlBytesConst
import Derived.StillTailTactics
import Derived.IntWalk
namespace Go.Proofs.Ytlbphkeiapnigaa.Walks
set_option linter.unusedVariables false
set_option linter.unusedSimpArgs false
open Go.RowKit Go.Proofs.Ytlbphkeiapnigaa.Bits Go.Proofs.Ytlbphkeiapnigaa.Heap Go.Proofs.Ytlbphkeiapnigaa.Aid Go.Proofs.Ytlbphkeiapnigaa.Arr Go.Proofs.Ytlbphkeiapnigaa.Eql

/-- Is this load, this store, ahead? (Asked ahead of a law, so that a law that does not fit fails at once.) -/
theorem load_gate {P : Program} {ops : Array Oper} {Q : Exit → Act → World → Prop} {rest : List Oper} {a : Act} {w : World} {dst : Option Tmp} {t : TypeId} {pos : String} {aft : Array Edge} {g : Option (Nat × Bool)} (ty : TypeId) (n : Tmp)
    (h : wpList P ops Q (⟨dst, .load ty (.tmp n), t, pos, aft, g⟩ :: rest) a w) : wpList P ops Q (⟨dst, .load ty (.tmp n), t, pos, aft, g⟩ :: rest) a w := h
theorem store_gate {P : Program} {ops : Array Oper} {Q : Exit → Act → World → Prop} {rest : List Oper} {a : Act} {w : World} {dst : Option Tmp} {t : TypeId} {pos : String} {aft : Array Edge} {g : Option (Nat × Bool)} (ty : TypeId) (n m : Tmp)
    (h : wpList P ops Q (⟨dst, .store ty (.tmp n) (.tmp m), t, pos, aft, g⟩ :: rest) a w) : wpList P ops Q (⟨dst, .store ty (.tmp n) (.tmp m), t, pos, aft, g⟩ :: rest) a w := h
/-- Is this call ahead, at a step of a region that draws? -/
theorem call_gate {P : Program} {ops : Array Oper} {a : Act} {w : World} {K : Act → World → Prop} {Q : Exit → Act → World → Prop} {E : Prop} {dst : Option Tmp} {t : TypeId} {pos : String} {aft : Array Edge} {g : Option (Nat × Bool)} {args : Array Operand} {ats : Array TypeId} (f : FuncId)
    (h : if Region.wanted ⟨dst, .call { callee := .value (.func f), args := args, argTypes := ats }, t, pos, aft, g⟩ (yielded ops a.tmps) = true then Oper.wp P ⟨dst, .call { callee := .value (.func f), args := args, argTypes := ats }, t, pos, aft, g⟩ a w K Q else E) :
    if Region.wanted ⟨dst, .call { callee := .value (.func f), args := args, argTypes := ats }, t, pos, aft, g⟩ (yielded ops a.tmps) = true then Oper.wp P ⟨dst, .call { callee := .value (.func f), args := args, argTypes := ats }, t, pos, aft, g⟩ a w K Q else E := h
structure BookF (B : List Value) : Prop where
  l : B.length = 96
  i : (Try.prog.info? 25).map (·.size) = some B.length
  o : ∀ v ∈ B, v.oneCell' = true
theorem bookF {b : List Le} (hb : b.length = 16) : BookF (bookCells b) := ⟨by rw [bookCells_length, hb], info_book hb, bookCells_one b⟩
set_option maxRecDepth 20000 in
set_option maxHeartbeats 2000000 in
theorem awake_calls (w : World) : Calls Try.prog 8 #[] w fun e w' => e = .returned (.bool true) ∧ Below w.heap.size w w' := by
  obtain ⟨ZC, hZC⟩ : ∃ ZC, zeroCells = ZC := ⟨_, rfl⟩
  have hz : ∀ w, (zeroValue 25).run Try.prog w = .ok (.agg ZC.toArray) w := by rw [← hZC]; exact zero_book
  have FZ := Lib.hid (show BookF ZC by rw [← hZC]; exact bookF (b := zeroBook) rfl)
  have hzs : ZC.toArray.size = 96 := by simpa using FZ.out.l
  have hzn : ¬ ZC.toArray = #[] := fun h => by rw [h] at hzs; simp at hzs
  have c1 := fun w => offer_calls zeroBook 0 3 1 true rfl w
  have l1 := offerL_length zeroBook 0 3 1 true rfl
  rw [show (offerL zeroBook 0 3 1 true).2.1 = 0 by decide, show (offerL zeroBook 0 3 1 true).2.2 = 0 by decide, show bookCells zeroBook = ZC from hZC] at c1
  have c2 := fun w => accept_calls (offerL zeroBook 0 3 1 true).1 0 1 9 l1 w
  have l2 := acceptL_length (offerL zeroBook 0 3 1 true).1 0 1 9 l1
  rw [show (acceptL (offerL zeroBook 0 3 1 true).1 0 1 9).2 = 0 by decide] at c2
  have c3 := fun w => withdraw_calls (acceptL (offerL zeroBook 0 3 1 true).1 0 1 9).1 0 0 l2 w
  have l3 := withdrawL_length (acceptL (offerL zeroBook 0 3 1 true).1 0 1 9).1 0 0 l2
  rw [show (withdrawL (acceptL (offerL zeroBook 0 3 1 true).1 0 1 9).1 0 0).2 = 8 by decide] at c3
  have c4 := fun w => at_calls (acceptL (offerL zeroBook 0 3 1 true).1 0 1 9).1 1 9 l2 w
  rw [show atL (acceptL (offerL zeroBook 0 3 1 true).1 0 1 9).1 1 9 = 0 by decide] at c4
  have F1 := Lib.hid (bookF l1)
  have F2 := Lib.hid (bookF l2)
  have F3 := Lib.hid (bookF l3)
  generalize bookCells (withdrawL (acceptL (offerL zeroBook 0 3 1 true).1 0 1 9).1 0 0).1 = B3 at *
  generalize bookCells (acceptL (offerL zeroBook 0 3 1 true).1 0 1 9).1 = B2 at *
  generalize bookCells (offerL zeroBook 0 3 1 true).1 = B1 at *
  have C1 := Lib.hid c1
  have C2 := Lib.hid c2
  have C3 := Lib.hid c3
  have C4 := Lib.hid c4
  clear c1 c2 c3 c4 l1 l2 l3 hZC
  go_enter Try.func8, Try.ntmps8
  have X_1 := Lib.hid (Own.newL (Below.refl _ w) ZC 25)
  go_upto_region 2 with (fail)
  generalize w.alloc (.cells ZC.toArray 25) = w2 at *
  go_wp2_with (((with_reducible refine load_gate (25) (1) ?_); refine wpList_load_mid rfl 25 (.tmp 1) rfl w.heap.size 0 rfl ZC _ X_1.out.all Try.underlying25 rfl FZ.out.i ?_))
  refine (C1.out _).mono ?_
  rintro e w3 ⟨rfl, u3⟩
  have X_4 := Lib.hid (X_1.out.step u3)
  clear u3 X_1
  go_upto_region 3 with (((with_reducible refine store_gate (25) (1) (11) ?_); refine wpList_store_mid rfl 25 (.tmp 1) (.tmp 11) rfl w.heap.size 0 B1.toArray rfl rfl (X_4.out.there ?s1) ?s2 ?s3 ?_))
  case s1 => have h1 := FZ.out.l; have h2 := F1.out.l; simp <;> omega
  case s2 => simpa using F1.out.i
  case s3 => first | exact F1.out.o | exact all_oneCell_toArray F1.out.o
  have X_5 := Lib.hid (X_4.out.setAll B1 (by rw [F1.out.l, FZ.out.l]))
  clear X_4
  generalize World.setCells _ _ _ _ = w6 at *
  go_wp2_with (((with_reducible refine load_gate (25) (1) ?_); refine wpList_load_mid rfl 25 (.tmp 1) rfl w.heap.size 0 rfl B1 _ X_5.out.all Try.underlying25 rfl F1.out.i ?_))
  refine (C2.out _).mono ?_
  rintro e w7 ⟨rfl, u7⟩
  have X_8 := Lib.hid (X_5.out.step u7)
  clear u7 X_5
  have Y_9 := Lib.hid (Own.newL X_8.out.bel ZC 25)
  have LT_X_Y := Lib.hid (show w.heap.size < w7.heap.size from X_8.out.lt)
  have X_10 := Lib.hid (X_8.out.alloc (.cells ZC.toArray 25))
  go_upto_region 4 with (((with_reducible refine store_gate (25) (4) (18) ?_); refine wpList_store_mid rfl 25 (.tmp 4) (.tmp 18) rfl w7.heap.size 0 B2.toArray rfl rfl (Y_9.out.there ?s1) ?s2 ?s3 ?_))
  case s1 => have h1 := FZ.out.l; have h2 := F2.out.l; simp <;> omega
  case s2 => simpa using F2.out.i
  case s3 => first | exact F2.out.o | exact all_oneCell_toArray F2.out.o
  have Y_11 := Lib.hid (Y_9.out.setAll B2 (by rw [F2.out.l, FZ.out.l]))
  have X_12 := Lib.hid (X_10.out.setAllO (Ne.symm (Nat.ne_of_lt LT_X_Y.out)) Y_9.out.n 0 B2)
  clear Y_9 X_10
  clear X_8
  generalize World.setCells _ _ _ _ = w13 at *
  generalize w7.heap.size = NY at *
  go_wp2_with (((with_reducible refine load_gate (25) (4) ?_); refine wpList_load_mid rfl 25 (.tmp 4) rfl NY 0 rfl B2 _ Y_11.out.all Try.underlying25 rfl F2.out.i ?_))
  refine (C3.out _).mono ?_
  rintro e w14 ⟨rfl, u14⟩
  have X_15 := Lib.hid (X_12.out.step u14)
  have Y_16 := Lib.hid (Y_11.out.step u14)
  clear u14 X_12 Y_11
  have Z_17 := Lib.hid (Own.newL X_15.out.bel ZC 25)
  have LT_X_Z := Lib.hid (show w.heap.size < w14.heap.size from X_15.out.lt)
  have X_18 := Lib.hid (X_15.out.alloc (.cells ZC.toArray 25))
  have LT_Y_Z := Lib.hid (show NY < w14.heap.size from Y_16.out.lt)
  have Y_19 := Lib.hid (Y_16.out.alloc (.cells ZC.toArray 25))
  go_upto_region 5 with (((with_reducible refine store_gate (25) (6) (24) ?_); refine wpList_store_mid rfl 25 (.tmp 6) (.tmp 24) rfl w14.heap.size 0 B3.toArray rfl rfl (Z_17.out.there ?s1) ?s2 ?s3 ?_))
  case s1 => have h1 := FZ.out.l; have h2 := F3.out.l; simp <;> omega
  case s2 => simpa using F3.out.i
  case s3 => first | exact F3.out.o | exact all_oneCell_toArray F3.out.o
  have Z_20 := Lib.hid (Z_17.out.setAll B3 (by rw [F3.out.l, FZ.out.l]))
  have X_21 := Lib.hid (X_18.out.setAllO (Ne.symm (Nat.ne_of_lt LT_X_Z.out)) Z_17.out.n 0 B3)
  have Y_22 := Lib.hid (Y_19.out.setAllO (Ne.symm (Nat.ne_of_lt LT_Y_Z.out)) Z_17.out.n 0 B3)
  clear Z_17 X_18 Y_19
  clear X_15 Y_16
  generalize World.setCells _ _ _ _ = w23 at *
  go_wp2_with (((with_reducible refine load_gate (25) (4) ?_); refine wpList_load_w rfl 25 (.tmp 4) rfl NY 0 rfl B2 _ Y_22.out.all Try.underlying25 rfl F2.out.i ?_))
  refine (C4.out _).mono ?_
  rintro e w24 ⟨rfl, u24⟩
  have X_25 := Lib.hid (X_21.out.step u24)
  have Y_26 := Lib.hid (Y_22.out.step u24)
  have Z_27 := Lib.hid (Z_20.out.step u24)
  clear u24 X_21 Y_22 Z_20
  go_wp2_with fail
  go_ret
  exact ⟨rfl, X_25.out.bel⟩
end Go.Proofs.Ytlbphkeiapnigaa.Walks
