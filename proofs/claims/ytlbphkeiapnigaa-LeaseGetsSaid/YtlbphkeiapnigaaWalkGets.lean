/- Walks through the functions of the statement, and the statement over them: each contract says what the call answers and that nothing else changes. -/
import Derived.Test.YtlbphkeiapnigaaProg
import Derived.Test.YtlbphkeiapnigaaBits
import Derived.Test.YtlbphkeiapnigaaHeap
import Derived.Test.YtlbphkeiapnigaaAid
import Derived.Lib.Hide
import Derived.Test.YtlbphkeiapnigaaArr
import Derived.Test.YtlbphkeiapnigaaEql
import Derived.Test.YtlbphkeiapnigaaWalkBook3
import Derived.WalkKit
import Derived.WalkSpells
import Derived.WalkLawsBesides
import Derived.Deep.QuietTactic
import Derived.BigQuiet
import Derived.Deep.RegionHeld3
import Derived.Deep.DeepCutAuto
import Derived.Deep.CutBlock
import Derived.Lib.SlBytesConst
import Derived.StillTailTactics
import Derived.IntWalk
namespace Go.Proofs.Ytlbphkeiapnigaa.Walks
set_option linter.unusedVariables false
set_option linter.unusedSimpArgs false
open Go.RowKit Go.Proofs.Ytlbphkeiapnigaa.Bits Go.Proofs.Ytlbphkeiapnigaa.Heap Go.Proofs.Ytlbphkeiapnigaa.Aid Go.Proofs.Ytlbphkeiapnigaa.Arr Go.Proofs.Ytlbphkeiapnigaa.Eql

/-- The post of a panic does not hang on the frame: said once. -/
theorem quiet_post {P : Program} {md : Region.Mode} {ops : Array Oper} {Q : Exit → Act → World → Prop} {S : World → Prop} {f : Nat} {l : Array Bool} {a : Act} {w : World}
    (h0 : ∀ c (a : Act) (d : Option Tmp) (v : Value) (w : World), Q (.panic c) (a.put d v) w → Q (.panic c) a w)
    (h : (∀ c (a : Act) (d : Option Tmp) (v : Value) (w : World), Q (.panic c) (a.put d v) w → Q (.panic c) a w) → wpAnyH P md ops Q S f l a w) : wpAnyH P md ops Q S f l a w := h h0
theorem size96A : (Try.prog.info? 24).map (·.size) = some 96 := by kernel_rfl
def leSh : Sh := .seq .bool (.seq (.int .i64) (.seq (.int .i64) (.seq (.int .i64) (.seq .bool (.seq (.int .i64) .nil)))))
/-- Whole numbers in bounds. -/
structure Le.Ok (x : Le) : Prop where
  a : (Lit.int .i64 x.fr).wf = true
  b : (Lit.int .i64 x.page).wf = true
  c : (Lit.int .i64 x.too).wf = true
  d : (Lit.int .i64 x.at_).wf = true
theorem Le.Ok.fits {x : Le} (h : x.Ok) (w : World) : Fits w leSh x.cells :=
  ⟨[_], _, rfl, ⟨_, rfl⟩, [_], _, rfl, ⟨_, rfl, h.a⟩, [_], _, rfl, ⟨_, rfl, h.b⟩, [_], _, rfl, ⟨_, rfl, h.c⟩, [_], _, rfl, ⟨_, rfl⟩, [_], _, rfl, ⟨_, rfl, h.d⟩, rfl⟩
theorem le_of_fits {w : World} {cs : List Value} (h : Fits w leSh cs) : ∃ x : Le, cs = x.cells ∧ x.Ok := by
  obtain ⟨_, _, rfl, ⟨a, rfl⟩, _, _, rfl, ⟨b, rfl, wb⟩, _, _, rfl, ⟨c, rfl, wc⟩, _, _, rfl, ⟨d, rfl, wd⟩, _, _, rfl, ⟨e, rfl⟩, _, _, rfl, ⟨f, rfl, wf⟩, h9⟩ := h
  simp only [Fits] at h9
  subst h9
  exact ⟨⟨a, b, c, d, e, f⟩, rfl, wb, wc, wd, wf⟩
theorem book_of_fits {w : World} {n : Nat} {cs : List Value} (h : Fits w (.rep n leSh) cs) : ∃ b : List Le, b.length = n ∧ cs = bookCells b ∧ ∀ x ∈ b, x.Ok := by
  obtain ⟨segs, h1, rfl, h3⟩ := h
  induction segs generalizing n with
  | nil => exact ⟨[], by simpa using h1, rfl, fun x hx => by cases hx⟩
  | cons s segs ih =>
    obtain ⟨x, rfl, hx⟩ := le_of_fits (h3 s (by simp))
    obtain ⟨l, e1, e2, e3⟩ := ih (n := segs.length) rfl (fun s hs => h3 s (by simp [hs]))
    refine ⟨x :: l, by simp [e1, ← h1], by rw [List.flatten_cons, e2]; rfl, fun y hy => ?_⟩
    simp only [List.mem_cons] at hy
    rcases hy with rfl | hy
    · exact hx
    · exact e3 y hy
theorem zeroLe_ok : zeroLe.Ok := ⟨by decide, by decide, by decide, by decide⟩
theorem eql_le {x : Le} (h : x.Ok) (W : World) : (binOp .eql 23 (.agg x.cells.toArray) (.agg x.cells.toArray)).run Try.prog W = .ok (.bool true) W :=
  (eql_same (P := Try.prog) (w := W) (w0 := W) (n := 3) (t := 23) (s := leSh) (by kernel_rfl) (by omega) (by kernel_rfl) (h.fits W)).1
set_option maxHeartbeats 4000000 in
theorem leaseGets_walk (c0 : List Value) (a1 : Int) (w : World) (f0 : Fits w (.rep 16 leSh) c0) (w1 : (Lit.int .i64 a1).wf = true) :
    Calls Try.prog 3 #[.agg c0.toArray, .int .i64 a1] w fun e w' => e = .returned (.bool true) ∧ Below w.heap.size w w' := by
  obtain ⟨b, hb, rfl, hok⟩ := book_of_fits f0
  clear f0 w1
  have hs : ∃ (x : Le) (er : Int), getL b a1 = (x, er) ∧ x.Ok ∧ ((∃ k : Nat, a1 = (k : Int) ∧ k < 16 ∧ b[k]? = some x ∧ x.on = true ∧ er = 0) ∨ (er = 2 ∧ x = zeroLe ∧ (a1 < 0 ∨ 15 < a1 ∨ ∃ (k : Nat) (y : Le), a1 = (k : Int) ∧ k < 16 ∧ b[k]? = some y ∧ y.on = false))) := by
    by_cases hn : 0 ≤ a1 ∧ a1 < 16
    · obtain ⟨k, rfl⟩ := Int.eq_ofNat_of_zero_le hn.1
      have hk : k < 16 := by omega
      have hx : b[k]? = some b[k] := List.getElem?_eq_getElem (by omega)
      have hg : getL b (k : Int) = if b[k].on then (b[k], 0) else (zeroLe, 2) := by
        unfold getL
        rw [if_pos hn, Int.toNat_natCast, List.getD_eq_getElem?_getD, hx]; rfl
      cases hon : b[k].on with
      | true => exact ⟨b[k], 0, by rw [hg, hon]; rfl, hok _ (List.getElem_mem (by omega)), .inl ⟨k, rfl, hk, hx, hon, rfl⟩⟩
      | false => exact ⟨zeroLe, 2, by rw [hg, hon]; rfl, zeroLe_ok, .inr ⟨rfl, rfl, .inr (.inr ⟨k, _, rfl, hk, hx, hon⟩)⟩⟩
    · exact ⟨zeroLe, 2, by unfold getL; rw [if_neg hn], zeroLe_ok, .inr ⟨rfl, rfl, by omega⟩⟩
  obtain ⟨x, er, hg, hxo, hcase⟩ := hs
  have c1 := fun w => get_calls b a1 hb w
  rw [hg] at c1
  dsimp only at c1
  have OX := Lib.hid (fun W => eql_le hxo W)
  have FB := Lib.hid (bookF hb)
  have IA := Lib.hid (show (Try.prog.info? 24).map (·.size) = some (bookCells b).length by rw [bookCells_length, hb, size96A])
  have SEG := Lib.hid (fun (k : Nat) (x : Le) (hx : b[k]? = some x) => bookCells_seg b hx)
  have GET := Lib.hid (fun (k : Nat) (x : Le) (hx : b[k]? = some x) => bookCells_get b hx (j := 0) (by omega))
  generalize hBC : bookCells b = BC at *
  have C1 := Lib.hid c1
  have I6 := Lib.hid size6
  have HZX := Lib.hid (show zeroLe.cells.length = 6 from rfl)
  have LX := Lib.hid (show x.cells.length = 6 from rfl)
  have OC : Hid (∀ v ∈ x.cells, v.oneCell' = true) := by show ∀ v ∈ x.cells, _; simp [Le.cells, Value.oneCell']
  have IX := Lib.hid (show (Try.prog.info? 23).map (·.size) = some x.cells.length from size6)
  have CE : Hid (∀ k : Nat, b[k]? = some x → x.on = true → BC[k * 6]? = some (.bool true) ∧ (BC.drop (k * 6)).take 6 = x.cells) := fun k hx hon => ⟨(GET.out k x hx).trans (show x.cells[0]? = some (.bool true) by rw [← hon]; rfl), by rw [Nat.mul_comm]; exact SEG.out k x hx⟩
  have ZE : Hid (x = zeroLe → ∀ W, (binOp .eql 23 (.agg x.cells.toArray) (.agg #[.bool false, .int .i64 0, .int .i64 0, .int .i64 0, .bool false, .int .i64 0])).run Try.prog W = .ok (.bool true) W) := fun h => by rw [h]; exact fun W => eql_le zeroLe_ok W
  generalize hXC : x.cells = XC at *
  clear c1 hBC hg hxo hok hXC SEG
  rcases hcase with ⟨k, rfl, hk, hx, hon, rfl⟩ | ⟨rfl, rfl, hbad⟩
  · have HX0 := Lib.hid (CE.out k hx hon).1
    have sg := Lib.hid (CE.out k hx hon).2
    clear hx hon CE ZE
    obtain ⟨ZC, hZC⟩ : ∃ ZC, zeroCells = ZC := ⟨_, rfl⟩
    have hz : ∀ w, (zeroValue 25).run Try.prog w = .ok (.agg ZC.toArray) w := by rw [← hZC]; exact zero_book
    have FZ := Lib.hid (show BookF ZC by rw [← hZC]; exact bookF (b := zeroBook) rfl)
    have hzs : ZC.toArray.size = 96 := by simpa using FZ.out.l
    have hzn : ¬ ZC.toArray = #[] := fun h => by rw [h] at hzs; simp at hzs
    clear hZC
    go_enter Try.func3, Try.ntmps3
    have X_1 := Lib.hid (Own.newL (Below.refl _ w) BC 24)
    go_upto_region 1 with (fail)
    generalize w.alloc (.cells BC.toArray 24) = w2 at *
    have Y_3 := Lib.hid (Own.newL X_1.out.bel ZC 25)
    have LT_X_Y := Lib.hid (show w.heap.size < w2.heap.size from X_1.out.lt)
    have X_4 := Lib.hid (X_1.out.alloc (.cells ZC.toArray 25))
    go_upto_region 2 with (first | refine wpList_load_mid rfl 24 (.tmp 2) rfl w.heap.size 0 rfl BC _ X_1.out.all Try.underlying24 rfl IA.out ?_ | refine wpList_store_mid rfl 25 (.tmp 5) (.tmp 8) rfl w2.heap.size 0 BC.toArray rfl rfl (Y_3.out.there ?s1) ?s2 ?s3 ?_)
    case s1 => have h1 := FZ.out.l; have h2 := FB.out.l; simp <;> omega
    case s2 => simpa using FB.out.i
    case s3 => first | exact FB.out.o | exact all_oneCell_toArray FB.out.o
    have Y_5 := Lib.hid (Y_3.out.setAll BC (by rw [FB.out.l, FZ.out.l]))
    have X_6 := Lib.hid (X_4.out.setAllO (Ne.symm (Nat.ne_of_lt LT_X_Y.out)) Y_3.out.n 0 BC)
    clear Y_3 X_4
    clear X_1
    generalize World.setCells _ _ _ _ = w7 at *
    generalize w2.heap.size = NY at *
    go_wp2_with (refine wpList_load_mid rfl 25 (.tmp 5) rfl NY 0 rfl BC _ Y_5.out.all Try.underlying25 rfl FB.out.i ?_)
    refine (C1.out _).mono ?_
    rintro e w8 ⟨rfl, u8⟩
    have X_9 := Lib.hid (X_6.out.step u8)
    have Y_10 := Lib.hid (Y_5.out.step u8)
    clear u8 X_6 Y_5
    have Z_11 := Lib.hid (Own.new X_9.out.bel #[.bool false, .int .i64 0, .int .i64 0, .int .i64 0, .bool false, .int .i64 0] 23)
    have LT_X_Z := Lib.hid (show w.heap.size < w8.heap.size from X_9.out.lt)
    have X_12 := Lib.hid (X_9.out.alloc (.cells #[.bool false, .int .i64 0, .int .i64 0, .int .i64 0, .bool false, .int .i64 0] 23))
    have LT_Y_Z := Lib.hid (show NY < w8.heap.size from Y_10.out.lt)
    have Y_13 := Lib.hid (Y_10.out.alloc (.cells #[.bool false, .int .i64 0, .int .i64 0, .int .i64 0, .bool false, .int .i64 0] 23))
    go_upto_region 3 with (refine wpList_store_mid rfl 23 (.tmp 6) (.tmp 13) rfl w8.heap.size 0 XC.toArray rfl rfl (Z_11.out.there ?s1) ?s2 ?s3 ?_)
    case s1 => have h1 := HZX.out; have h2 := LX.out; simp <;> omega
    case s2 => simpa using IX.out
    case s3 => first | exact OC.out | exact all_oneCell_toArray OC.out
    have Z_14 := Lib.hid (Z_11.out.setAll XC (by rw [LX.out]; rfl))
    have X_15 := Lib.hid (X_12.out.setAllO (Ne.symm (Nat.ne_of_lt LT_X_Z.out)) Z_11.out.n 0 XC)
    have Y_16 := Lib.hid (Y_13.out.setAllO (Ne.symm (Nat.ne_of_lt LT_Y_Z.out)) Z_11.out.n 0 XC)
    clear Z_11 X_12 Y_13
    clear X_9 Y_10
    generalize World.setCells _ _ _ _ = w17 at *
    generalize w8.heap.size = NZ at *
    have hk0 : 0 ≤ (k : Int) := by omega
    have hki : (k : Int) < 16 := by omega
    have d1 : ¬ (k : Int) < 0 := by omega
    have d2 : ¬ (15 : Int) < (k : Int) := by omega
    have c0 : w17.cell? ⟨w.heap.size, k * 6, none⟩ = some (.bool true) := X_15.out.cell HX0.out
    go_upto_region 5 with (fail)
    have u23 := Try.underlying23
    have i6 : (Try.prog.info? 23).map (·.size) = some XC.length := IX.out
    have oX := OX.out
    clear c0
    refine wp_region_noPanic ?_
    refine wp_region_held_drew (S := (fun w' => Own w w.heap.size BC 24 w' ∧ Own w NY BC 25 w' ∧ Own w NZ XC 23 w' ∧ w'.rangeAt NZ 0 XC ∧ w'.rangeAt w.heap.size (k * 6) XC)) (by kernel_rfl) ⟨(X_15.out.drewN 1), (Y_16.out.drewN 1), (Z_14.out.drewN 1), (Z_14.out.drewN 1).all, (range_of_blk (X_15.out.drewN 1).k sg.out)⟩ (fun hHeld => ?_)
    refine quiet_post (fun _ _ _ _ _ h => h) (fun hQ => ?_)
    have HQP := Lib.hid hQ
    clear hQ
    refine wpAnyH_ready (rs := [0]) (by kernel_rfl) (by simp) ?_
    refine AllReadyH.cons (o := ⟨some 38, _, _, _, _, _⟩) rfl (fun K hK => ?_) AllReadyH.nil
    go_simp
    go_at_call 8
    refine (awake_calls _).mono ?_
    rintro e w18 ⟨rfl, u18⟩
    try dsimp only
    refine hK.out _ _ ⟨(hHeld.1.step u18), (hHeld.2.1.step u18), (hHeld.2.2.1.step u18), (hHeld.2.2.1.step u18).all, (range_of_blk (hHeld.1.step u18).k sg.out)⟩ (fun hHeld => ?_)
    clear hK K u18
    try simp only [Act.put, List.setIfInBounds_toArray, List.set_cons_zero, List.set_cons_succ]
    refine wpAnyH_take (i := 1) (oi := ⟨some 39, _, _, _, _, _⟩) (v := .bool true) rfl (by kernel_rfl) (by kernel_rfl) (by kernel_rfl) (fun c _ _ h => HQP.out c _ _ _ _ h) (Or.inl ⟨by rfl, fun w hSw => by dsimp only at hSw; go_split_ands; go_simp⟩) (by assumption) ?_
    simp only [Act.put, List.setIfInBounds_toArray, List.set_cons_zero, List.set_cons_succ]
    refine wpAnyH_take (i := 2) (oi := ⟨some 40, _, _, _, _, _⟩) (v := .int .i64 0) rfl (by kernel_rfl) (by kernel_rfl) (by kernel_rfl) (fun c _ _ h => HQP.out c _ _ _ _ h) (Or.inl ⟨by rfl, fun w hSw => by dsimp only at hSw; go_split_ands; go_simp⟩) (by assumption) ?_
    simp only [Act.put, List.setIfInBounds_toArray, List.set_cons_zero, List.set_cons_succ]
    refine wpAnyH_take (i := 3) (oi := ⟨some 41, _, _, _, _, _⟩) (v := .bool true) rfl (by kernel_rfl) (by kernel_rfl) (by kernel_rfl) (fun c _ _ h => HQP.out c _ _ _ _ h) (Or.inl ⟨by rfl, fun w hSw => by dsimp only at hSw; go_split_ands; go_simp⟩) (by assumption) ?_
    simp only [Act.put, List.setIfInBounds_toArray, List.set_cons_zero, List.set_cons_succ]
    refine wpAnyH_take (i := 4) (oi := ⟨some 42, _, _, _, _, _⟩) (v := .bool true) rfl (by kernel_rfl) (by kernel_rfl) (by kernel_rfl) (fun c _ _ h => HQP.out c _ _ _ _ h) (Or.inl ⟨by rfl, fun w hSw => by dsimp only at hSw; go_split_ands; go_simp⟩) (by assumption) ?_
    simp only [Act.put, List.setIfInBounds_toArray, List.set_cons_zero, List.set_cons_succ]
    refine wpAnyH_take (i := 5) (oi := ⟨some 43, _, _, _, _, _⟩) (v := .bool true) rfl (by kernel_rfl) (by kernel_rfl) (by kernel_rfl) (fun c _ _ h => HQP.out c _ _ _ _ h) (Or.inl ⟨by rfl, fun w hSw => by dsimp only at hSw; go_split_ands; go_simp⟩) (by assumption) ?_
    simp only [Act.put, List.setIfInBounds_toArray, List.set_cons_zero, List.set_cons_succ]
    refine wpAnyH_take (i := 6) (oi := ⟨some 44, _, _, _, _, _⟩) rfl (by kernel_rfl) (by kernel_rfl) (by kernel_rfl) (fun c _ _ h => HQP.out c _ _ _ _ h) (yieldsIf_load_mid (by rfl) 23 _ rfl NZ (0) rfl XC _ (fun _ h => h.2.2.2.1) u23 rfl (i6)) (by assumption) ?_
    simp only [Act.put, List.setIfInBounds_toArray, List.set_cons_zero, List.set_cons_succ]
    refine wpAnyH_take (i := 7) (oi := ⟨some 45, _, _, _, _, _⟩) (v := .int .i64 (k : Int)) rfl (by kernel_rfl) (by kernel_rfl) (by kernel_rfl) (fun c _ _ h => HQP.out c _ _ _ _ h) (Or.inl ⟨by rfl, fun w hSw => by dsimp only at hSw; go_split_ands; go_simp⟩) (by assumption) ?_
    simp only [Act.put, List.setIfInBounds_toArray, List.set_cons_zero, List.set_cons_succ]
    refine wpAnyH_take (i := 8) (oi := ⟨some 46, _, _, _, _, _⟩) (v := .pointer (some ⟨w.heap.size, k * 6, none⟩)) rfl (by kernel_rfl) (by kernel_rfl) (by kernel_rfl) (fun c _ _ h => HQP.out c _ _ _ _ h) (Or.inl ⟨by rfl, fun w hSw => by dsimp only at hSw; go_split_ands; go_simp⟩) (by assumption) ?_
    simp only [Act.put, List.setIfInBounds_toArray, List.set_cons_zero, List.set_cons_succ]
    refine wpAnyH_take (i := 9) (oi := ⟨some 47, _, _, _, _, _⟩) rfl (by kernel_rfl) (by kernel_rfl) (by kernel_rfl) (fun c _ _ h => HQP.out c _ _ _ _ h) (yieldsIf_load_mid (by rfl) 23 _ rfl w.heap.size ((k * 6)) rfl XC _ (fun _ h => h.2.2.2.2) u23 rfl (i6)) (by assumption) ?_
    simp only [Act.put, List.setIfInBounds_toArray, List.set_cons_zero, List.set_cons_succ]
    refine wpAnyH_take (i := 10) (oi := ⟨some 48, _, _, _, _, _⟩) (v := .bool true) rfl (by kernel_rfl) (by kernel_rfl) (by kernel_rfl) (fun c _ _ h => HQP.out c _ _ _ _ h) (Or.inl ⟨by rfl, fun w hSw => by dsimp only at hSw; go_split_ands; go_simp⟩) (by assumption) ?_
    simp only [Act.put, List.setIfInBounds_toArray, List.set_cons_zero, List.set_cons_succ]
    refine wpAnyH_take (i := 11) (oi := ⟨some 49, _, _, _, _, _⟩) (v := .bool true) rfl (by kernel_rfl) (by kernel_rfl) (by kernel_rfl) (fun c _ _ h => HQP.out c _ _ _ _ h) (Or.inl ⟨by rfl, fun w hSw => by dsimp only at hSw; go_split_ands; go_simp⟩) (by assumption) ?_
    simp only [Act.put, List.setIfInBounds_toArray, List.set_cons_zero, List.set_cons_succ]
    refine wpAnyH_take (i := 12) (oi := ⟨some 4, _, _, _, _, _⟩) (v := .bool true) rfl (by kernel_rfl) (by kernel_rfl) (by kernel_rfl) (fun c _ _ h => HQP.out c _ _ _ _ h) (Or.inl ⟨by rfl, fun w hSw => by dsimp only at hSw; go_split_ands; go_simp⟩) (by assumption) ?_
    simp only [Act.put, List.setIfInBounds_toArray, List.set_cons_zero, List.set_cons_succ]
    refine wpAnyH_done (by kernel_rfl) ?_ _
    refine NoPanic.normal ?_
    have X_19 := Lib.hid hHeld.1
    clear X_15
    have Y_20 := Lib.hid hHeld.2.1
    clear Y_16
    have Z_21 := Lib.hid hHeld.2.2.1
    clear Z_14
    clear hHeld HQP
    go_wp2_with fail
    go_ret
    exact ⟨rfl, X_19.out.bel⟩
  · rcases hbad with hn | hn | ⟨k, y, rfl, hk, hy, hon⟩
    · have d1 : a1 < 0 := hn
      obtain ⟨ZC, hZC⟩ : ∃ ZC, zeroCells = ZC := ⟨_, rfl⟩
      have hz : ∀ w, (zeroValue 25).run Try.prog w = .ok (.agg ZC.toArray) w := by rw [← hZC]; exact zero_book
      have FZ := Lib.hid (show BookF ZC by rw [← hZC]; exact bookF (b := zeroBook) rfl)
      have hzs : ZC.toArray.size = 96 := by simpa using FZ.out.l
      have hzn : ¬ ZC.toArray = #[] := fun h => by rw [h] at hzs; simp at hzs
      clear hZC
      go_enter Try.func3, Try.ntmps3
      have X_1 := Lib.hid (Own.newL (Below.refl _ w) BC 24)
      go_upto_region 1 with (fail)
      generalize w.alloc (.cells BC.toArray 24) = w2 at *
      have Y_3 := Lib.hid (Own.newL X_1.out.bel ZC 25)
      have LT_X_Y := Lib.hid (show w.heap.size < w2.heap.size from X_1.out.lt)
      have X_4 := Lib.hid (X_1.out.alloc (.cells ZC.toArray 25))
      go_upto_region 2 with (first | refine wpList_load_mid rfl 24 (.tmp 2) rfl w.heap.size 0 rfl BC _ X_1.out.all Try.underlying24 rfl IA.out ?_ | refine wpList_store_mid rfl 25 (.tmp 5) (.tmp 8) rfl w2.heap.size 0 BC.toArray rfl rfl (Y_3.out.there ?s1) ?s2 ?s3 ?_)
      case s1 => have h1 := FZ.out.l; have h2 := FB.out.l; simp <;> omega
      case s2 => simpa using FB.out.i
      case s3 => first | exact FB.out.o | exact all_oneCell_toArray FB.out.o
      have Y_5 := Lib.hid (Y_3.out.setAll BC (by rw [FB.out.l, FZ.out.l]))
      have X_6 := Lib.hid (X_4.out.setAllO (Ne.symm (Nat.ne_of_lt LT_X_Y.out)) Y_3.out.n 0 BC)
      clear Y_3 X_4
      clear X_1
      generalize World.setCells _ _ _ _ = w7 at *
      generalize w2.heap.size = NY at *
      go_wp2_with (refine wpList_load_mid rfl 25 (.tmp 5) rfl NY 0 rfl BC _ Y_5.out.all Try.underlying25 rfl FB.out.i ?_)
      refine (C1.out _).mono ?_
      rintro e w8 ⟨rfl, u8⟩
      have X_9 := Lib.hid (X_6.out.step u8)
      have Y_10 := Lib.hid (Y_5.out.step u8)
      clear u8 X_6 Y_5
      have Z_11 := Lib.hid (Own.new X_9.out.bel #[.bool false, .int .i64 0, .int .i64 0, .int .i64 0, .bool false, .int .i64 0] 23)
      have LT_X_Z := Lib.hid (show w.heap.size < w8.heap.size from X_9.out.lt)
      have X_12 := Lib.hid (X_9.out.alloc (.cells #[.bool false, .int .i64 0, .int .i64 0, .int .i64 0, .bool false, .int .i64 0] 23))
      have LT_Y_Z := Lib.hid (show NY < w8.heap.size from Y_10.out.lt)
      have Y_13 := Lib.hid (Y_10.out.alloc (.cells #[.bool false, .int .i64 0, .int .i64 0, .int .i64 0, .bool false, .int .i64 0] 23))
      go_upto_region 3 with (refine wpList_store_mid rfl 23 (.tmp 6) (.tmp 13) rfl w8.heap.size 0 XC.toArray rfl rfl (Z_11.out.there ?s1) ?s2 ?s3 ?_)
      case s1 => have h1 := HZX.out; have h2 := LX.out; simp <;> omega
      case s2 => simpa using IX.out
      case s3 => first | exact OC.out | exact all_oneCell_toArray OC.out
      have Z_14 := Lib.hid (Z_11.out.setAll XC (by rw [LX.out]; rfl))
      have X_15 := Lib.hid (X_12.out.setAllO (Ne.symm (Nat.ne_of_lt LT_X_Z.out)) Z_11.out.n 0 XC)
      have Y_16 := Lib.hid (Y_13.out.setAllO (Ne.symm (Nat.ne_of_lt LT_Y_Z.out)) Z_11.out.n 0 XC)
      clear Z_11 X_12 Y_13
      clear X_9 Y_10
      generalize World.setCells _ _ _ _ = w17 at *
      generalize w8.heap.size = NZ at *
      go_wp2_with fail
      refine (awake_calls _).mono ?_
      rintro e w18 ⟨rfl, u18⟩
      have X_19 := Lib.hid (X_15.out.step u18)
      have Y_20 := Lib.hid (Y_16.out.step u18)
      have Z_21 := Lib.hid (Z_14.out.step u18)
      clear u18 X_15 Y_16 Z_14
      have oX := ZE.out (by trivial)
      go_wp2_with (refine wpList_load_w (by rfl) 23 (.tmp 6) rfl NZ 0 rfl XC _ Z_21.out.all Try.underlying23 rfl IX.out ?_)
      go_ret
      exact ⟨rfl, X_19.out.bel⟩
    · have d1 : ¬ a1 < 0 := by omega
      have d2 : 15 < a1 := hn
      obtain ⟨ZC, hZC⟩ : ∃ ZC, zeroCells = ZC := ⟨_, rfl⟩
      have hz : ∀ w, (zeroValue 25).run Try.prog w = .ok (.agg ZC.toArray) w := by rw [← hZC]; exact zero_book
      have FZ := Lib.hid (show BookF ZC by rw [← hZC]; exact bookF (b := zeroBook) rfl)
      have hzs : ZC.toArray.size = 96 := by simpa using FZ.out.l
      have hzn : ¬ ZC.toArray = #[] := fun h => by rw [h] at hzs; simp at hzs
      clear hZC
      go_enter Try.func3, Try.ntmps3
      have X_1 := Lib.hid (Own.newL (Below.refl _ w) BC 24)
      go_upto_region 1 with (fail)
      generalize w.alloc (.cells BC.toArray 24) = w2 at *
      have Y_3 := Lib.hid (Own.newL X_1.out.bel ZC 25)
      have LT_X_Y := Lib.hid (show w.heap.size < w2.heap.size from X_1.out.lt)
      have X_4 := Lib.hid (X_1.out.alloc (.cells ZC.toArray 25))
      go_upto_region 2 with (first | refine wpList_load_mid rfl 24 (.tmp 2) rfl w.heap.size 0 rfl BC _ X_1.out.all Try.underlying24 rfl IA.out ?_ | refine wpList_store_mid rfl 25 (.tmp 5) (.tmp 8) rfl w2.heap.size 0 BC.toArray rfl rfl (Y_3.out.there ?s1) ?s2 ?s3 ?_)
      case s1 => have h1 := FZ.out.l; have h2 := FB.out.l; simp <;> omega
      case s2 => simpa using FB.out.i
      case s3 => first | exact FB.out.o | exact all_oneCell_toArray FB.out.o
      have Y_5 := Lib.hid (Y_3.out.setAll BC (by rw [FB.out.l, FZ.out.l]))
      have X_6 := Lib.hid (X_4.out.setAllO (Ne.symm (Nat.ne_of_lt LT_X_Y.out)) Y_3.out.n 0 BC)
      clear Y_3 X_4
      clear X_1
      generalize World.setCells _ _ _ _ = w7 at *
      generalize w2.heap.size = NY at *
      go_wp2_with (refine wpList_load_mid rfl 25 (.tmp 5) rfl NY 0 rfl BC _ Y_5.out.all Try.underlying25 rfl FB.out.i ?_)
      refine (C1.out _).mono ?_
      rintro e w8 ⟨rfl, u8⟩
      have X_9 := Lib.hid (X_6.out.step u8)
      have Y_10 := Lib.hid (Y_5.out.step u8)
      clear u8 X_6 Y_5
      have Z_11 := Lib.hid (Own.new X_9.out.bel #[.bool false, .int .i64 0, .int .i64 0, .int .i64 0, .bool false, .int .i64 0] 23)
      have LT_X_Z := Lib.hid (show w.heap.size < w8.heap.size from X_9.out.lt)
      have X_12 := Lib.hid (X_9.out.alloc (.cells #[.bool false, .int .i64 0, .int .i64 0, .int .i64 0, .bool false, .int .i64 0] 23))
      have LT_Y_Z := Lib.hid (show NY < w8.heap.size from Y_10.out.lt)
      have Y_13 := Lib.hid (Y_10.out.alloc (.cells #[.bool false, .int .i64 0, .int .i64 0, .int .i64 0, .bool false, .int .i64 0] 23))
      go_upto_region 3 with (refine wpList_store_mid rfl 23 (.tmp 6) (.tmp 13) rfl w8.heap.size 0 XC.toArray rfl rfl (Z_11.out.there ?s1) ?s2 ?s3 ?_)
      case s1 => have h1 := HZX.out; have h2 := LX.out; simp <;> omega
      case s2 => simpa using IX.out
      case s3 => first | exact OC.out | exact all_oneCell_toArray OC.out
      have Z_14 := Lib.hid (Z_11.out.setAll XC (by rw [LX.out]; rfl))
      have X_15 := Lib.hid (X_12.out.setAllO (Ne.symm (Nat.ne_of_lt LT_X_Z.out)) Z_11.out.n 0 XC)
      have Y_16 := Lib.hid (Y_13.out.setAllO (Ne.symm (Nat.ne_of_lt LT_Y_Z.out)) Z_11.out.n 0 XC)
      clear Z_11 X_12 Y_13
      clear X_9 Y_10
      generalize World.setCells _ _ _ _ = w17 at *
      generalize w8.heap.size = NZ at *
      go_wp2_with fail
      refine (awake_calls _).mono ?_
      rintro e w18 ⟨rfl, u18⟩
      have X_19 := Lib.hid (X_15.out.step u18)
      have Y_20 := Lib.hid (Y_16.out.step u18)
      have Z_21 := Lib.hid (Z_14.out.step u18)
      clear u18 X_15 Y_16 Z_14
      have oX := ZE.out (by trivial)
      go_wp2_with (refine wpList_load_w (by rfl) 23 (.tmp 6) rfl NZ 0 rfl XC _ Z_21.out.all Try.underlying23 rfl IX.out ?_)
      go_ret
      exact ⟨rfl, X_19.out.bel⟩
    · have hk0 : 0 ≤ (k : Int) := by omega
      have hki : (k : Int) < 16 := by omega
      have d1 : ¬ (k : Int) < 0 := by omega
      have d2 : ¬ (15 : Int) < (k : Int) := by omega
      have HX0 := Lib.hid ((GET.out k y hy).trans (show y.cells[0]? = some (.bool false) by rw [← hon]; rfl))
      clear hy hon
      obtain ⟨ZC, hZC⟩ : ∃ ZC, zeroCells = ZC := ⟨_, rfl⟩
      have hz : ∀ w, (zeroValue 25).run Try.prog w = .ok (.agg ZC.toArray) w := by rw [← hZC]; exact zero_book
      have FZ := Lib.hid (show BookF ZC by rw [← hZC]; exact bookF (b := zeroBook) rfl)
      have hzs : ZC.toArray.size = 96 := by simpa using FZ.out.l
      have hzn : ¬ ZC.toArray = #[] := fun h => by rw [h] at hzs; simp at hzs
      clear hZC
      go_enter Try.func3, Try.ntmps3
      have X_1 := Lib.hid (Own.newL (Below.refl _ w) BC 24)
      go_upto_region 1 with (fail)
      generalize w.alloc (.cells BC.toArray 24) = w2 at *
      have Y_3 := Lib.hid (Own.newL X_1.out.bel ZC 25)
      have LT_X_Y := Lib.hid (show w.heap.size < w2.heap.size from X_1.out.lt)
      have X_4 := Lib.hid (X_1.out.alloc (.cells ZC.toArray 25))
      go_upto_region 2 with (first | refine wpList_load_mid rfl 24 (.tmp 2) rfl w.heap.size 0 rfl BC _ X_1.out.all Try.underlying24 rfl IA.out ?_ | refine wpList_store_mid rfl 25 (.tmp 5) (.tmp 8) rfl w2.heap.size 0 BC.toArray rfl rfl (Y_3.out.there ?s1) ?s2 ?s3 ?_)
      case s1 => have h1 := FZ.out.l; have h2 := FB.out.l; simp <;> omega
      case s2 => simpa using FB.out.i
      case s3 => first | exact FB.out.o | exact all_oneCell_toArray FB.out.o
      have Y_5 := Lib.hid (Y_3.out.setAll BC (by rw [FB.out.l, FZ.out.l]))
      have X_6 := Lib.hid (X_4.out.setAllO (Ne.symm (Nat.ne_of_lt LT_X_Y.out)) Y_3.out.n 0 BC)
      clear Y_3 X_4
      clear X_1
      generalize World.setCells _ _ _ _ = w7 at *
      generalize w2.heap.size = NY at *
      go_wp2_with (refine wpList_load_mid rfl 25 (.tmp 5) rfl NY 0 rfl BC _ Y_5.out.all Try.underlying25 rfl FB.out.i ?_)
      refine (C1.out _).mono ?_
      rintro e w8 ⟨rfl, u8⟩
      have X_9 := Lib.hid (X_6.out.step u8)
      have Y_10 := Lib.hid (Y_5.out.step u8)
      clear u8 X_6 Y_5
      have Z_11 := Lib.hid (Own.new X_9.out.bel #[.bool false, .int .i64 0, .int .i64 0, .int .i64 0, .bool false, .int .i64 0] 23)
      have LT_X_Z := Lib.hid (show w.heap.size < w8.heap.size from X_9.out.lt)
      have X_12 := Lib.hid (X_9.out.alloc (.cells #[.bool false, .int .i64 0, .int .i64 0, .int .i64 0, .bool false, .int .i64 0] 23))
      have LT_Y_Z := Lib.hid (show NY < w8.heap.size from Y_10.out.lt)
      have Y_13 := Lib.hid (Y_10.out.alloc (.cells #[.bool false, .int .i64 0, .int .i64 0, .int .i64 0, .bool false, .int .i64 0] 23))
      go_upto_region 3 with (refine wpList_store_mid rfl 23 (.tmp 6) (.tmp 13) rfl w8.heap.size 0 XC.toArray rfl rfl (Z_11.out.there ?s1) ?s2 ?s3 ?_)
      case s1 => have h1 := HZX.out; have h2 := LX.out; simp <;> omega
      case s2 => simpa using IX.out
      case s3 => first | exact OC.out | exact all_oneCell_toArray OC.out
      have Z_14 := Lib.hid (Z_11.out.setAll XC (by rw [LX.out]; rfl))
      have X_15 := Lib.hid (X_12.out.setAllO (Ne.symm (Nat.ne_of_lt LT_X_Z.out)) Z_11.out.n 0 XC)
      have Y_16 := Lib.hid (Y_13.out.setAllO (Ne.symm (Nat.ne_of_lt LT_Y_Z.out)) Z_11.out.n 0 XC)
      clear Z_11 X_12 Y_13
      clear X_9 Y_10
      generalize World.setCells _ _ _ _ = w17 at *
      generalize w8.heap.size = NZ at *
      have c0 : w17.cell? ⟨w.heap.size, k * 6, none⟩ = some (.bool false) := X_15.out.cell HX0.out
      go_wp2_with fail
      refine (awake_calls _).mono ?_
      rintro e w18 ⟨rfl, u18⟩
      have X_19 := Lib.hid (X_15.out.step u18)
      have Y_20 := Lib.hid (Y_16.out.step u18)
      have Z_21 := Lib.hid (Z_14.out.step u18)
      clear u18 X_15 Y_16 Z_14
      have oX := ZE.out (by trivial)
      go_wp2_with (refine wpList_load_w (by rfl) 23 (.tmp 6) rfl NZ 0 rfl XC _ Z_21.out.all Try.underlying23 rfl IX.out ?_)
      go_ret
      exact ⟨rfl, X_19.out.bel⟩
end Go.Proofs.Ytlbphkeiapnigaa.Walks
