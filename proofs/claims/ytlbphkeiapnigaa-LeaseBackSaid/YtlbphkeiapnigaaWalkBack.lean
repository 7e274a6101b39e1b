/- Walks through the functions of the statement, and the statement over them: each contract says what the call answers and that nothing else changes. -/
import Derived.Test.YtlbphkeiapnigaaProg
import Derived.Test.YtlbphkeiapnigaaBits
import Derived.Test.YtlbphkeiapnigaaHeap
import Derived.Test.YtlbphkeiapnigaaAid
import Derived.Lib.Hide
import Derived.Test.YtlbphkeiapnigaaArr
import Derived.Test.YtlbphkeiapnigaaEql
import Derived.Test.YtlbphkeiapnigaaWalkLe
import Derived.WalkKit
import Derived.WalkSpells
import Derived.WalkLawsBesides
import Derived.Deep.QuietTactic
import Derived.BigQuiet
import Derived.Deep.RegionHeld3
import Derived.Deep.DeepCutAuto
import Derived.Deep.CutBlock
import Derived.Lib.SlBytesConst
import Derived.StillTailTactics
import Derived.IntWalk
namespace Go.Proofs.Ytlbphkeiapnigaa.Walks
set_option linter.unusedVariables false
set_option linter.unusedSimpArgs false
open Go.RowKit Go.Proofs.Ytlbphkeiapnigaa.Bits Go.Proofs.Ytlbphkeiapnigaa.Heap Go.Proofs.Ytlbphkeiapnigaa.Aid Go.Proofs.Ytlbphkeiapnigaa.Arr Go.Proofs.Ytlbphkeiapnigaa.Eql

theorem size6A : (Try.prog.info? 38).map (·.size) = some 6 := by kernel_rfl
set_option maxRecDepth 100000 in
set_option maxHeartbeats 8000000 in
theorem leaseBack_walk (a0 a1 a2 a3 : Int) (a4 : Bool) (v5 : Value) (w : World) (w0 : (Lit.int .u8 a0).wf = true) (w1 : (Lit.int .u8 a1).wf = true) (w2 : (Lit.int .u8 a2).wf = true) (w3 : (Lit.int .u8 a3).wf = true) (f5 : Fits w (.slice acSh) [v5]) :
    Calls Try.prog 5 #[.int .u8 a0, .int .u8 a1, .int .u8 a2, .int .u8 a3, .bool a4, v5] w fun e w' => e = .returned (.bool true) ∧ Below w.heap.size w w' := by
  obtain ⟨m0, rfl, h0⟩ := wf_u8 w0
  obtain ⟨m1, rfl, h1⟩ := wf_u8 w1
  obtain ⟨m2, rfl, h2⟩ := wf_u8 w2
  obtain ⟨m3, rfl, h3⟩ := wf_u8 w3
  obtain ⟨av, cp, segs, rfl, hcap, hmx, hfit, hat⟩ := rowS_of f5 (by decide)
  have hmx' : segs.length ≤ 9223372036854775807 := by unfold maxLen at hmx; omega
  clear w0 w1 w2 w3 f5 hmx hcap
  have HF := Lib.hid hfit
  have HA := Lib.hid hat
  clear hfit hat
  obtain ⟨f, ef, hf⟩ : ∃ v : Int, (m0 : Int) % 6 = v ∧ 0 ≤ v ∧ v < 6 := ⟨_, rfl, by omega, by omega⟩
  obtain ⟨t, et, ht⟩ : ∃ v : Int, (m1 : Int) % 6 = v ∧ 0 ≤ v ∧ v < 6 := ⟨_, rfl, by omega, by omega⟩
  obtain ⟨p, ep, hp⟩ : ∃ p : Int, (m2 : Int) % 32 = p ∧ 0 ≤ p ∧ p < 32 := ⟨_, rfl, by omega, by omega⟩
  obtain ⟨a, ea, ha⟩ : ∃ p : Int, (m3 : Int) % 32 = p ∧ 0 ≤ p ∧ p < 32 := ⟨_, rfl, by omega, by omega⟩
  have a0 : 0 ≤ (m0 : Int) := by omega
  have a1 : 0 ≤ (m1 : Int) := by omega
  have a2 : 0 ≤ (m2 : Int) := by omega
  have a3 : 0 ≤ (m3 : Int) := by omega
  have b0 : (m0 : Int) < 256 := by omega
  have b1 : (m1 : Int) < 256 := by omega
  have b2 : (m2 : Int) < 256 := by omega
  have b3 : (m3 : Int) < 256 := by omega
  have f0 := hf.1
  have f6 := hf.2
  have t0 := ht.1
  have t6 := ht.2
  have p0 := hp.1
  have p32 := hp.2
  have c0 := ha.1
  have c32 := ha.2
  clear h0 h1 h2 h3
  obtain ⟨ZC, hZC⟩ : ∃ ZC, zeroCells = ZC := ⟨_, rfl⟩
  have hz : ∀ w, (zeroValue 25).run Try.prog w = .ok (.agg ZC.toArray) w := by rw [← hZC]; exact zero_book
  have FZ := Lib.hid (show BookF ZC by rw [← hZC]; exact bookF (b := zeroBook) rfl)
  have hzs : ZC.toArray.size = 96 := by simpa using FZ.out.l
  have hzn : ¬ ZC.toArray = #[] := fun h => by rw [h] at hzs; simp at hzs
  have HZC := Lib.hid hZC
  clear hZC
  go_enter Try.func5, Try.ntmps5
  have EF := Lib.hid (And.intro ef (And.intro et (And.intro ep ea)))
  clear ef et ep ea
  go_wp2_with fail
  refine (awake_calls _).mono ?_
  rintro e w1 ⟨rfl, u1⟩
  have B2 := Lib.hid (u1)
  clear u1
  by_cases h20 : 20 < segs.length
  · have hd : decide (20 < (segs.length : Int)) = true := decide_eq_true (by omega)
    go_wp2_with fail
    refine (awake_calls _).mono ?_
    rintro e w3 ⟨rfl, u3⟩
    have B4 := Lib.hid (B2.out.trans (u3.mono B2.out.size))
    clear u3 B2
    go_wp2_with fail
    go_ret
    exact ⟨rfl, B4.out⟩
  · have hd : decide (20 < (segs.length : Int)) = false := decide_eq_false (by omega)
    have X_3 := Lib.hid (Own.newL B2.out ZC 25)
    clear B2
    go_upto_region 4 with (fail)
    generalize w1.alloc (.cells ZC.toArray 25) = w4 at *
    generalize w1.heap.size = NX at *
    go_wp2_with fail
    go_loopw [14] (fun i wr => ∃ (k : Nat) (b : List Le), k ≤ segs.length ∧ i = .int .i64 k ∧ OB b ∧ Own w NX (bookCells b) 25 wr) (fun i _ => segs.length - (intOf i).toNat)
    case atStart => exact ⟨0, zeroBook, by omega, rfl, OB.zero, by show Own _ _ zeroCells _ _; rw [HZC.out]; exact X_3.out⟩
    case round =>
      clear X_3
      obtain ⟨k, b, hk, rfl, hob, o1⟩ := hrel
      have X0 := Lib.hid o1
      have OB1 := Lib.hid hob
      clear o1 hob
      by_cases hlt : k < segs.length
      · have hk0 : 0 ≤ (k : Int) := by omega
        have hki : (k : Int) < (segs.length : Int) := by omega
        obtain ⟨b5, o5, rfl, hrow⟩ := HA.out k _ (List.getElem?_eq_getElem hlt)
        obtain ⟨x, hxs, hxo⟩ := ac_of_fits (HF.out segs[k] (List.getElem_mem hlt))
        rw [hxs] at hrow
        obtain ⟨xk, xn, xv, xp, xt, xw⟩ := x
        obtain ⟨hx1, hx2, hx3, hx4, hx5⟩ := hxo
        obtain ⟨u1, vm, eu1, u10, u11, ev1, v10, v11⟩ := u64_rem (n := xv) (m := 6) (by omega) (by omega)
        obtain ⟨u2, pg, eu2, u20, u21, ev2, v20, v21⟩ := u64_rem (n := xp) (m := 32) (by omega) (by omega)
        obtain ⟨u3, tt, eu3, u30, u31, ev3, v30, v31⟩ := u64_rem (n := xt) (m := 6) (by omega) (by omega)
        have RG : Hid (wr.rangeAt b5 (o5 + k * 6) [.int .u8 (xk : Int), .int .i64 xn, .int .i64 xv, .int .i64 xp, .int .i64 xt, .bool xw]) := hrow _ X0.out.bel
        have LA := Lib.hid size6A
        have C1 := Lib.hid (fun w => offer_calls b vm pg tt xw OB1.out.l w)
        have O2 := Lib.hid (OB1.out.offer (wr := xw) ⟨v10, v11⟩ ⟨v20, v21⟩ ⟨v30, v31⟩)
        have F1 := Lib.hid (bookF OB1.out.l)
        have F2 := Lib.hid (bookF O2.out.l)
        generalize offerL b vm pg tt xw = of at *
        obtain ⟨ob, on_, oe⟩ := of
        dsimp only at C1 O2 F2
        generalize hBK : bookCells b = BK at *
        generalize hBN : bookCells ob = BN at *
        have HBN := Lib.hid hBN
        have HBK := Lib.hid hBK
        clear hBK hBN hrow hxs
        go_upto_region 8 with (refine wpList_load_mid rfl 38 (.tmp 46) rfl b5 (o5 + k * 6) rfl [.int .u8 (xk : Int), .int .i64 xn, .int .i64 xv, .int .i64 xp, .int .i64 xt, .bool xw] _ RG.out Try.underlying38 rfl LA.out ?_)
        have Q_5 := Lib.hid (Own.new X0.out.bel #[.int .u8 (xk : Int), .int .i64 xn, .int .i64 xv, .int .i64 xp, .int .i64 xt, .bool xw] 38)
        have LT_X_Q := Lib.hid (show NX < wr.heap.size from X0.out.lt)
        have X_6 := Lib.hid (X0.out.alloc (.cells #[.int .u8 (xk : Int), .int .i64 xn, .int .i64 xv, .int .i64 xp, .int .i64 xt, .bool xw] 38))
        clear X0
        generalize wr.alloc (.cells #[.int .u8 (xk : Int), .int .i64 xn, .int .i64 xv, .int .i64 xp, .int .i64 xt, .bool xw] 38) = w7 at *
        generalize wr.heap.size = NQ at *
        have d2 := Q_5.out.cell (i := 2) rfl
        have d3 := Q_5.out.cell (i := 3) rfl
        have d4 := Q_5.out.cell (i := 4) rfl
        have d5 := Q_5.out.cell (i := 5) rfl
        clear Q_5
        go_wp2_with (refine wpList_load_mid rfl 25 (.tmp 13) rfl NX 0 rfl BK _ X_6.out.all Try.underlying25 rfl F1.out.i ?_)
        refine (C1.out _).mono ?_
        rintro e w8 ⟨rfl, u8⟩
        have X_9 := Lib.hid (X_6.out.step u8)
        clear u8 X_6
        have Y_10 := Lib.hid (Own.newL X_9.out.bel ZC 25)
        have LT_X_Y := Lib.hid (show NX < w8.heap.size from X_9.out.lt)
        have X_11 := Lib.hid (X_9.out.alloc (.cells ZC.toArray 25))
        go_upto_region 9 with (refine wpList_store_mid rfl 25 (.tmp 16) (.tmp 68) rfl w8.heap.size 0 BN.toArray rfl rfl (Y_10.out.there ?s1) ?s2 ?s3 ?_)
        case s1 => have h1 := FZ.out.l; have h2 := F2.out.l; simp <;> omega
        case s2 => simpa using F2.out.i
        case s3 => first | exact F2.out.o | exact all_oneCell_toArray F2.out.o
        have Y_12 := Lib.hid (Y_10.out.setAll BN (by rw [F2.out.l, FZ.out.l]))
        have X_13 := Lib.hid (X_11.out.setAllO (Ne.symm (Nat.ne_of_lt LT_X_Y.out)) Y_10.out.n 0 BN)
        clear Y_10 X_11
        clear X_9
        generalize World.setCells _ _ _ _ = w14 at *
        generalize w8.heap.size = NY at *
        clear d2 d3 d4 d5
        by_cases hoe : oe = 0
        · subst hoe
          go_wp2_with (first | refine wpList_load_mid rfl 25 (.tmp 16) rfl NY 0 rfl BN _ Y_12.out.all Try.underlying25 rfl F2.out.i ?_ | refine wpList_store_mid rfl 25 (.tmp 13) (.tmp 73) rfl NX 0 BN.toArray rfl rfl (X_13.out.there ?s1) ?s2 ?s3 ?_)
          case s1 => have h1 := F1.out.l; have h2 := F2.out.l; simp <;> omega
          case s2 => simpa using F2.out.i
          case s3 => first | exact F2.out.o | exact all_oneCell_toArray F2.out.o
          have X_15 := Lib.hid (X_13.out.setAll BN (by rw [F2.out.l, F1.out.l]))
          have Y_16 := Lib.hid (Y_12.out.setAllO (Nat.ne_of_lt LT_X_Y.out) X_13.out.n 0 BN)
          clear X_13 Y_12
          generalize World.setCells _ _ _ _ = w17 at *
          go_roundw
          case rel => exact ⟨k + 1, ob, by omega, by go_num, O2.out, by rw [HBN.out]; exact X_15.out⟩
          case measure => simp [intOf]; omega
        · have he : (oe == 0) = false := beq_false_of_ne hoe
          have he2 : decide (oe = 0) = false := decide_eq_false hoe
          go_wp2_with fail
          go_roundw
          case rel => exact ⟨k + 1, b, by omega, by go_num, OB1.out, by rw [HBK.out]; exact X_13.out⟩
          case measure => simp [intOf]; omega
      · obtain rfl : k = segs.length := by omega
        obtain ⟨ef, et, ep, ea⟩ := EF.out
        have F1 := Lib.hid (bookF OB1.out.l)
        have EB := Lib.hid (eql_book OB1.out)
        have SP := Lib.hid (offer_spec OB1.out.l (wr := a4) hf hp ht)
        have C1 := Lib.hid (fun w => offer_calls b f p t a4 OB1.out.l w)
        have O2 := Lib.hid (OB1.out.offer (wr := a4) hf hp ht)
        have BL := Lib.hid (fun (k : Nat) (x : Le) (hk : k < 16) (hx : b[k]? = some x) (hon : x.on = false) (hne : f ≠ t) => back_law OB1.out (wr := a4) hf hp ht ha hk hx hon hne)
        have F2 := Lib.hid (bookF O2.out.l)
        clear HA HF hlt hk
        rcases SP.out with ⟨e1, hft⟩ | ⟨hft, e1⟩ | ⟨hft, n, x, hn16, hx, hon, e1⟩
        · rw [e1] at C1 O2 F2
          dsimp only at C1 O2 F2
          clear e1 SP
          subst hft
          clear BL
          generalize hBK : bookCells b = BK at *
          clear hBK
          go_wp2_with (refine wpList_load_mid rfl 25 (.tmp 13) rfl NX 0 rfl BK _ X0.out.all Try.underlying25 rfl F1.out.i ?_)
          refine (C1.out _).mono ?_
          rintro e w5 ⟨rfl, u5⟩
          have X_6 := Lib.hid (X0.out.step u5)
          clear u5 X0
          have Y_7 := Lib.hid (Own.newL X_6.out.bel ZC 25)
          have LT_X_Y := Lib.hid (show NX < w5.heap.size from X_6.out.lt)
          have X_8 := Lib.hid (X_6.out.alloc (.cells ZC.toArray 25))
          go_upto_region 14 with (refine wpList_store_mid rfl 25 (.tmp 21) (.tmp 89) rfl w5.heap.size 0 BK.toArray rfl rfl (Y_7.out.there ?s1) ?s2 ?s3 ?_)
          case s1 => have h1 := FZ.out.l; have h2 := F1.out.l; simp <;> omega
          case s2 => simpa using F1.out.i
          case s3 => first | exact F1.out.o | exact all_oneCell_toArray F1.out.o
          have Y_9 := Lib.hid (Y_7.out.setAll BK (by rw [F1.out.l, FZ.out.l]))
          have X_10 := Lib.hid (X_8.out.setAllO (Ne.symm (Nat.ne_of_lt LT_X_Y.out)) Y_7.out.n 0 BK)
          clear Y_7 X_8
          clear X_6
          generalize World.setCells _ _ _ _ = w11 at *
          generalize w5.heap.size = NY at *
          go_wp2_with fail
          go_ret
          exact ⟨rfl, X_10.out.bel⟩
        · rw [e1] at C1 O2 F2
          dsimp only at C1 O2 F2
          clear e1 SP
          have hne : (f == t) = false := beq_false_of_ne hft
          have hne2 : decide (f = t) = false := decide_eq_false hft
          clear hft
          clear BL
          generalize hBK : bookCells b = BK at *
          clear hBK
          go_wp2_with (refine wpList_load_mid rfl 25 (.tmp 13) rfl NX 0 rfl BK _ X0.out.all Try.underlying25 rfl F1.out.i ?_)
          refine (C1.out _).mono ?_
          rintro e w5 ⟨rfl, u5⟩
          have X_6 := Lib.hid (X0.out.step u5)
          clear u5 X0
          have Y_7 := Lib.hid (Own.newL X_6.out.bel ZC 25)
          have LT_X_Y := Lib.hid (show NX < w5.heap.size from X_6.out.lt)
          have X_8 := Lib.hid (X_6.out.alloc (.cells ZC.toArray 25))
          go_upto_region 14 with (refine wpList_store_mid rfl 25 (.tmp 21) (.tmp 89) rfl w5.heap.size 0 BK.toArray rfl rfl (Y_7.out.there ?s1) ?s2 ?s3 ?_)
          case s1 => have h1 := FZ.out.l; have h2 := F1.out.l; simp <;> omega
          case s2 => simpa using F1.out.i
          case s3 => first | exact F1.out.o | exact all_oneCell_toArray F1.out.o
          have Y_9 := Lib.hid (Y_7.out.setAll BK (by rw [F1.out.l, FZ.out.l]))
          have X_10 := Lib.hid (X_8.out.setAllO (Ne.symm (Nat.ne_of_lt LT_X_Y.out)) Y_7.out.n 0 BK)
          clear Y_7 X_8
          clear X_6
          generalize World.setCells _ _ _ _ = w11 at *
          generalize w5.heap.size = NY at *
          go_wp2_with fail
          go_ret
          exact ⟨rfl, X_10.out.bel⟩
        · rw [e1] at C1 O2 F2
          dsimp only at C1 O2 F2
          clear e1 SP
          obtain ⟨l1, l2, l3, l4, l5⟩ := BL.out n x hn16 hx hon hft
          have hne : (f == t) = false := beq_false_of_ne hft
          have n0 : 0 ≤ (n : Int) := by omega
          have k3 := fun w => accept_calls (b.set n ⟨true, f, p, t, a4, -1⟩) (n : Int) t a O2.out.l w
          have k4 := fun w => leave_calls (b.set n ⟨true, f, p, t, a4, a⟩) (n : Int) t (by rw [List.length_set, OB1.out.l]) w
          have k5 := fun w => withdraw_calls (b.set n ⟨true, f, p, t, a4, -1⟩) (n : Int) f O2.out.l w
          have k6 := fun w => at_calls (b.set n ⟨true, f, p, t, a4, a⟩) t a (by rw [List.length_set, OB1.out.l]) w
          have F3 := Lib.hid (bookF (b := b.set n ⟨true, f, p, t, a4, a⟩) (by rw [List.length_set, OB1.out.l]))
          have E2 := Lib.hid (eql_book O2.out)
          rw [l1] at k3
          rw [l2] at k4
          rw [l3] at k5
          dsimp only at k3 k4 k5
          generalize atL (b.set n ⟨true, f, p, t, a4, a⟩) t a = ra at *
          have C3 := Lib.hid k3
          have C4 := Lib.hid k4
          have C5 := Lib.hid k5
          have C6 := Lib.hid k6
          have hra : decide (0 ≤ ra) = true := decide_eq_true l4
          clear k3 k4 k5 k6 l1 l2 l3 BL hx hon hft hn16 O2
          generalize bookCells (b.set n ⟨true, f, p, t, a4, a⟩) = B3 at *
          generalize bookCells (b.set n ⟨true, f, p, t, a4, -1⟩) = B2 at *
          generalize hBK : bookCells b = BK at *
          clear hBK OB1
          go_wp2_with (refine wpList_load_mid rfl 25 (.tmp 13) rfl NX 0 rfl BK _ X0.out.all Try.underlying25 rfl F1.out.i ?_)
          refine (C1.out _).mono ?_
          rintro e w5 ⟨rfl, u5⟩
          have X_6 := Lib.hid (X0.out.step u5)
          clear u5 X0
          have Y_7 := Lib.hid (Own.newL X_6.out.bel ZC 25)
          have LT_X_Y := Lib.hid (show NX < w5.heap.size from X_6.out.lt)
          have X_8 := Lib.hid (X_6.out.alloc (.cells ZC.toArray 25))
          go_upto_region 14 with (refine wpList_store_mid rfl 25 (.tmp 21) (.tmp 89) rfl w5.heap.size 0 B2.toArray rfl rfl (Y_7.out.there ?s1) ?s2 ?s3 ?_)
          case s1 => have h1 := FZ.out.l; have h2 := F2.out.l; simp <;> omega
          case s2 => simpa using F2.out.i
          case s3 => first | exact F2.out.o | exact all_oneCell_toArray F2.out.o
          have Y_9 := Lib.hid (Y_7.out.setAll B2 (by rw [F2.out.l, FZ.out.l]))
          have X_10 := Lib.hid (X_8.out.setAllO (Ne.symm (Nat.ne_of_lt LT_X_Y.out)) Y_7.out.n 0 B2)
          clear Y_7 X_8
          clear X_6
          generalize World.setCells _ _ _ _ = w11 at *
          generalize w5.heap.size = NY at *
          go_wp2_with (refine wpList_load_mid rfl 25 (.tmp 21) rfl NY 0 rfl B2 _ Y_9.out.all Try.underlying25 rfl F2.out.i ?_)
          refine (C3.out _).mono ?_
          rintro e w12 ⟨rfl, u12⟩
          have X_13 := Lib.hid (X_10.out.step u12)
          have Y_14 := Lib.hid (Y_9.out.step u12)
          clear u12 X_10 Y_9
          have Z_15 := Lib.hid (Own.newL X_13.out.bel ZC 25)
          have LT_X_Z := Lib.hid (show NX < w12.heap.size from X_13.out.lt)
          have X_16 := Lib.hid (X_13.out.alloc (.cells ZC.toArray 25))
          have LT_Y_Z := Lib.hid (show NY < w12.heap.size from Y_14.out.lt)
          have Y_17 := Lib.hid (Y_14.out.alloc (.cells ZC.toArray 25))
          go_upto_region 17 with (refine wpList_store_mid rfl 25 (.tmp 24) (.tmp 113) rfl w12.heap.size 0 B3.toArray rfl rfl (Z_15.out.there ?s1) ?s2 ?s3 ?_)
          case s1 => have h1 := FZ.out.l; have h2 := F3.out.l; simp <;> omega
          case s2 => simpa using F3.out.i
          case s3 => first | exact F3.out.o | exact all_oneCell_toArray F3.out.o
          have Z_18 := Lib.hid (Z_15.out.setAll B3 (by rw [F3.out.l, FZ.out.l]))
          have X_19 := Lib.hid (X_16.out.setAllO (Ne.symm (Nat.ne_of_lt LT_X_Z.out)) Z_15.out.n 0 B3)
          have Y_20 := Lib.hid (Y_17.out.setAllO (Ne.symm (Nat.ne_of_lt LT_Y_Z.out)) Z_15.out.n 0 B3)
          clear Z_15 X_16 Y_17
          clear X_13 Y_14
          generalize World.setCells _ _ _ _ = w21 at *
          generalize w12.heap.size = NZ at *
          go_wp2_with (refine wpList_load_mid rfl 25 (.tmp 24) rfl NZ 0 rfl B3 _ Z_18.out.all Try.underlying25 rfl F3.out.i ?_)
          refine (C4.out _).mono ?_
          rintro e w22 ⟨rfl, u22⟩
          have X_23 := Lib.hid (X_19.out.step u22)
          have Y_24 := Lib.hid (Y_20.out.step u22)
          have Z_25 := Lib.hid (Z_18.out.step u22)
          clear u22 X_19 Y_20 Z_18
          have U_26 := Lib.hid (Own.newL X_23.out.bel ZC 25)
          have LT_X_U := Lib.hid (show NX < w22.heap.size from X_23.out.lt)
          have X_27 := Lib.hid (X_23.out.alloc (.cells ZC.toArray 25))
          have LT_Y_U := Lib.hid (show NY < w22.heap.size from Y_24.out.lt)
          have Y_28 := Lib.hid (Y_24.out.alloc (.cells ZC.toArray 25))
          have LT_Z_U := Lib.hid (show NZ < w22.heap.size from Z_25.out.lt)
          have Z_29 := Lib.hid (Z_25.out.alloc (.cells ZC.toArray 25))
          go_upto_region 18 with (refine wpList_store_mid rfl 25 (.tmp 26) (.tmp 120) rfl w22.heap.size 0 B2.toArray rfl rfl (U_26.out.there ?s1) ?s2 ?s3 ?_)
          case s1 => have h1 := FZ.out.l; have h2 := F2.out.l; simp <;> omega
          case s2 => simpa using F2.out.i
          case s3 => first | exact F2.out.o | exact all_oneCell_toArray F2.out.o
          have U_30 := Lib.hid (U_26.out.setAll B2 (by rw [F2.out.l, FZ.out.l]))
          have X_31 := Lib.hid (X_27.out.setAllO (Ne.symm (Nat.ne_of_lt LT_X_U.out)) U_26.out.n 0 B2)
          have Y_32 := Lib.hid (Y_28.out.setAllO (Ne.symm (Nat.ne_of_lt LT_Y_U.out)) U_26.out.n 0 B2)
          have Z_33 := Lib.hid (Z_29.out.setAllO (Ne.symm (Nat.ne_of_lt LT_Z_U.out)) U_26.out.n 0 B2)
          clear U_26 X_27 Y_28 Z_29
          clear X_23 Y_24 Z_25
          generalize World.setCells _ _ _ _ = w34 at *
          generalize w22.heap.size = NU at *
          go_wp2_with (refine wpList_load_mid rfl 25 (.tmp 26) rfl NU 0 rfl B2 _ U_30.out.all Try.underlying25 rfl F2.out.i ?_)
          refine (C5.out _).mono ?_
          rintro e w35 ⟨rfl, u35⟩
          have X_36 := Lib.hid (X_31.out.step u35)
          have Y_37 := Lib.hid (Y_32.out.step u35)
          have Z_38 := Lib.hid (Z_33.out.step u35)
          have U_39 := Lib.hid (U_30.out.step u35)
          clear u35 X_31 Y_32 Z_33 U_30
          have V_40 := Lib.hid (Own.newL X_36.out.bel ZC 25)
          have LT_X_V := Lib.hid (show NX < w35.heap.size from X_36.out.lt)
          have X_41 := Lib.hid (X_36.out.alloc (.cells ZC.toArray 25))
          have LT_Y_V := Lib.hid (show NY < w35.heap.size from Y_37.out.lt)
          have Y_42 := Lib.hid (Y_37.out.alloc (.cells ZC.toArray 25))
          have LT_Z_V := Lib.hid (show NZ < w35.heap.size from Z_38.out.lt)
          have Z_43 := Lib.hid (Z_38.out.alloc (.cells ZC.toArray 25))
          have LT_U_V := Lib.hid (show NU < w35.heap.size from U_39.out.lt)
          have U_44 := Lib.hid (U_39.out.alloc (.cells ZC.toArray 25))
          go_upto_region 19 with (refine wpList_store_mid rfl 25 (.tmp 28) (.tmp 127) rfl w35.heap.size 0 BK.toArray rfl rfl (V_40.out.there ?s1) ?s2 ?s3 ?_)
          case s1 => have h1 := FZ.out.l; have h2 := F1.out.l; simp <;> omega
          case s2 => simpa using F1.out.i
          case s3 => first | exact F1.out.o | exact all_oneCell_toArray F1.out.o
          have V_45 := Lib.hid (V_40.out.setAll BK (by rw [F1.out.l, FZ.out.l]))
          have X_46 := Lib.hid (X_41.out.setAllO (Ne.symm (Nat.ne_of_lt LT_X_V.out)) V_40.out.n 0 BK)
          have Y_47 := Lib.hid (Y_42.out.setAllO (Ne.symm (Nat.ne_of_lt LT_Y_V.out)) V_40.out.n 0 BK)
          have Z_48 := Lib.hid (Z_43.out.setAllO (Ne.symm (Nat.ne_of_lt LT_Z_V.out)) V_40.out.n 0 BK)
          have U_49 := Lib.hid (U_44.out.setAllO (Ne.symm (Nat.ne_of_lt LT_U_V.out)) V_40.out.n 0 BK)
          clear V_40 X_41 Y_42 Z_43 U_44
          clear X_36 Y_37 Z_38 U_39
          generalize World.setCells _ _ _ _ = w50 at *
          generalize w35.heap.size = NV at *
          have q1 := EB.out
          have q2 := E2.out
          go_wp2_with (first | refine wpList_load_w (by rfl) 25 (.tmp 26) rfl NU 0 rfl B2 _ U_49.out.all Try.underlying25 rfl F2.out.i ?_ | refine wpList_load_w (by rfl) 25 (.tmp 21) rfl NY 0 rfl B2 _ Y_47.out.all Try.underlying25 rfl F2.out.i ?_ | refine wpList_load_w (by rfl) 25 (.tmp 28) rfl NV 0 rfl BK _ V_45.out.all Try.underlying25 rfl F1.out.i ?_ | refine wpList_load_w (by rfl) 25 (.tmp 13) rfl NX 0 rfl BK _ X_46.out.all Try.underlying25 rfl F1.out.i ?_ | refine wpList_load_w (by rfl) 25 (.tmp 24) rfl NZ 0 rfl B3 _ Z_48.out.all Try.underlying25 rfl F3.out.i ?_)
          refine (C6.out _).mono ?_
          rintro e w51 ⟨rfl, u51⟩
          have X_52 := Lib.hid (X_46.out.step u51)
          have Y_53 := Lib.hid (Y_47.out.step u51)
          have Z_54 := Lib.hid (Z_48.out.step u51)
          have U_55 := Lib.hid (U_49.out.step u51)
          have V_56 := Lib.hid (V_45.out.step u51)
          clear u51 X_46 Y_47 Z_48 U_49 V_45
          go_wp2_with fail
          go_ret
          exact ⟨rfl, X_52.out.bel⟩
end Go.Proofs.Ytlbphkeiapnigaa.Walks
