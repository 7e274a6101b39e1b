/- Walks through the functions of the statement, and the statement over them: each contract says what the call answers and that nothing else changes. -/
import Derived.Test.YtajgiolnajneeaaDoorProg
import Derived.Test.YtajgiolnajneeaaDoorWalkLine
import Derived.Test.YtajgiolnajneeaaDoorBits
import Derived.Test.YtajgiolnajneeaaDoorHeap
import Derived.Test.YtajgiolnajneeaaDoorAid
import Derived.Lib.Hide
import Derived.Test.YtajgiolnajneeaaDoorArr
import Derived.Test.YtajgiolnajneeaaDoorEql
import Derived.WalkKit
import Derived.WalkSpells
import Derived.WalkLawsBesides
import Derived.Deep.QuietTactic
import Derived.BigQuiet
import Derived.Deep.RegionHeld3
import Derived.Deep.DeepCutAuto
import Derived.Deep.CutBlock
import Derived.Lib.SlBytesConst
import Derived.StillTailTactics
import Derived.RegionTactic
import Derived.Shelf.Spec.TrailingZeros
namespace Go.Proofs.YtajgiolnajneeaaDoor.Walks
set_option linter.unusedVariables false
set_option linter.unusedSimpArgs false
open Go.RowKit Go.Proofs.YtajgiolnajneeaaDoor.Bits Go.Proofs.YtajgiolnajneeaaDoor.Heap Go.Proofs.YtajgiolnajneeaaDoor.Aid Go.Proofs.YtajgiolnajneeaaDoor.Arr Go.Proofs.YtajgiolnajneeaaDoor.Eql

/-- The least line that may come, from one on. -/
def wantF (x : Nat) (op : Bool) : Nat → Int
  | 0 => -1
  | k + 1 => if op = true ∧ x.testBit (7 - k) = true then (7 - k : Nat) else wantF x op k
theorem mod2_bit (x i : Nat) : (x / 2 ^ i) % 2 = 1 ↔ x.testBit i = true := by
  rw [Nat.testBit_eq_decide_div_mod_eq]; simp
theorem wantF_none {x : Nat} {op : Bool} (h : op = false ∨ x = 0) : ∀ k, wantF x op k = -1 := by
  intro k
  induction k with
  | zero => rfl
  | succ k ih =>
    simp only [wantF]
    rw [if_neg, ih]
    rintro ⟨h1, h2⟩
    rcases h with h | h
    · rw [h] at h1; cases h1
    · rw [h] at h2; simp at h2
theorem wantF_some {x : Nat} {op : Bool} {c : Nat} (ho : op = true) (h1 : x.testBit c = true) (h2 : ∀ j, j < c → x.testBit j = false) (hc : c < 8) : ∀ k, k ≤ 8 → 8 ≤ k + c → wantF x op k = (c : Int) := by
  intro k
  induction k with
  | zero => intro _ h; omega
  | succ k ih =>
    intro hk hkc
    simp only [wantF]
    by_cases e : 7 - k = c
    · rw [if_pos ⟨ho, by rw [e]; exact h1⟩, e]
    · have hlt : 7 - k < c ∨ c < 7 - k := by omega
      rcases hlt with hlt | hlt
      · rw [if_neg (by rw [h2 _ hlt]; simp)]
        exact ih (by omega) (by omega)
      · omega
theorem wantF_next {x : Se} (h : x.Ok) (hp : x.pe < 256) : (nextB x = true → wantF (x.pe &&& x.ma) x.op 8 = nextN x ∧ nextN x = (Lib.ctz 64 (x.pe &&& x.ma) : Int) ∧ Lib.ctz 64 (x.pe &&& x.ma) < 8 ∧ x.pe.testBit (Lib.ctz 64 (x.pe &&& x.ma)) = true) ∧ (nextB x = false → wantF (x.pe &&& x.ma) x.op 8 = -1 ∧ nextN x = 0) := by
  have hq : x.pe &&& x.ma < 2 ^ 8 := Nat.lt_of_le_of_lt Nat.and_le_left (by omega)
  constructor
  · intro hb
    obtain ⟨h1, h2, _⟩ := next_some h hb
    have hl := ctz_lt h2 (by omega) hq
    have e : nextN x = (Lib.ctz 64 (x.pe &&& x.ma) : Int) := by unfold nextN; rw [if_pos hb]
    have hbit := ctz_bit h2 (by omega : x.pe &&& x.ma < 2 ^ 64)
    refine ⟨?_, e, hl, ?_⟩
    · rw [e]
      exact wantF_some h1 hbit (fun j hj => ctz_low h2 (by omega) hj) hl 8 (by omega) (by omega)
    · rw [Nat.testBit_and, Bool.and_eq_true] at hbit
      exact hbit.1
  · intro hb
    refine ⟨wantF_none ?_ 8, by unfold nextN; rw [hb]; rfl⟩
    unfold nextB at hb
    rw [Bool.and_eq_false_iff] at hb
    rcases hb with hb | hb
    · exact .inl hb
    · right; simpa using hb
/-- A bit taken off. -/
theorem andn_bit : ∀ p, p < 256 → ∀ c, c < 8 → p.testBit c = true → andn p (2 ^ c) = p - 2 ^ c ∧ 2 ^ c ≤ p := by decide +kernel
theorem wantF_step (x : Nat) (op : Bool) {m : Nat} (hm : m < 8) : wantF x op (8 - m) = if op = true ∧ x.testBit m = true then (m : Int) else wantF x op (8 - (m + 1)) := by
  rw [show 8 - m = (8 - (m + 1)) + 1 by omega]
  simp only [wantF]
  rw [show 7 - (8 - (m + 1)) = m by omega]
theorem int_bit (x m : Nat) : ((x : Int) / 2 ^ m % 2 == 1) = x.testBit m := by
  rw [Bool.eq_iff_iff, ← mod2_bit, beq_iff_eq]
  have e : (x : Int) / 2 ^ m % 2 = ((x / 2 ^ m % 2 : Nat) : Int) := by simp
  rw [e]; omega
theorem drew_own {w w1 w2 : World} {b : Nat} {cs : List Value} {t : TypeId} (h : Own w b cs t w1) (hm : ∃ n, w2 = w1.drewN n) : Own w b cs t w2 := by
  obtain ⟨n, rfl⟩ := hm
  exact h.drewN n
set_option maxHeartbeats 4000000 in
theorem lineTakes_walk (c : List Value) (w : World) (f : Fits w seSh c) (hT : TabAt 0 Lib.deBruijn64tab w) :
    Calls Tryd.prog 4 #[.agg c.toArray] w fun e w' => e = .returned (.bool true) ∧ Below w.heap.size w w' := by
  obtain ⟨x, rfl, h⟩ := seat_of_fits f
  have NX := Lib.hid (next_calls _ (near_ok h))
  have TK := Lib.hid (take_calls _ (near_ok h))
  have okt := Lib.hid (take_ok (near_ok h))
  have EQ := Lib.hid (fun W => eql_same (P := Tryd.prog) (w := W) (w0 := W) (n := 3) (t := 26) (s := seSh) (by kernel_rfl) (by omega) (by kernel_rfl) (okt.out.fits W))
  have EQY := Lib.hid (fun W => eql_same (P := Tryd.prog) (w := W) (w0 := W) (n := 3) (t := 26) (s := seSh) (by kernel_rfl) (by omega) (by kernel_rfl) ((near_ok h).fits W))
  have IR := Lib.hid (info_se okt.out)
  have HTS := Lib.hid (show takeS (nearS x) = if nextB (nearS x) = true then { nearS x with pe := andn (nearS x).pe (2 ^ Lib.ctz 64 ((nearS x).pe &&& (nearS x).ma)) } else nearS x from rfl)
  have HWF := Lib.hid (wantF_next (near_ok h) (Nat.mod_lt _ (by omega)))
  generalize takeS (nearS x) = z at *
  generalize nextN (nearS x) = rn at *
  generalize nextB (nearS x) = rb at *
  generalize hRC : z.cells = RC at *
  have HRC := Lib.hid hRC
  clear hRC
  have HN := Lib.hid (near_calls x h)
  have okn := Lib.hid (near_ok h)
  have LX := Lib.hid h.len
  have IX := Lib.hid (info_se h)
  have IN := Lib.hid (info_se okn.out)
  have LN := Lib.hid okn.out.len
  have ON := Lib.hid (Se.one (nearS x))
  have G22 := Lib.hid okn.out.g22
  have G23 := Lib.hid okn.out.g23
  have G24 := Lib.hid okn.out.g24
  have G25 := Lib.hid okn.out.g25
  have YP : Hid ((nearS x).pe < 256) := Nat.mod_lt _ (by omega)
  have YM : Hid ((nearS x).ma < 256) := Nat.mod_lt _ (by omega)
  have HA := Lib.hid (bits_and (k := .u32) rfl okn.out.p okn.out.m)
  have hz := zero_val
  have HZL := Lib.hid zero_ok.len
  have HT := Lib.hid hT
  clear hT f
  generalize nearS x = y at *
  generalize hY : y.cells = YC at *
  generalize x.cells = XC at *
  generalize zeroSe.cells = ZC at *
  have hzs : ZC.toArray.size = 26 := by simpa using HZL.out
  have hzn : ¬ ZC.toArray = #[] := fun h => by rw [h] at hzs; simp at hzs
  have HY := Lib.hid hY
  clear hY
  have X1 : Hid (Own w w.heap.size XC 26 (w.alloc (.cells XC.toArray 26))) := Own.newL (Below.refl _ _) _ _
  go_enter Tryd.func4, Tryd.ntmps4
  go_upto_region 1 with (fail)
  generalize w.alloc (.cells XC.toArray 26) = w1 at *
  go_upto_region 2 with (first | refine wpList_load_mid rfl 26 (.tmp 1) rfl w.heap.size 0 rfl XC _ X1.out.all Tryd.underlying26 rfl IX.out ?_ | (go_at_call 8; refine (HN.out _).mono ?_; rintro e w2 ⟨rfl, u2⟩; have X2 := Lib.hid (X1.out.step u2); clear u2) | refine wpList_store_mid rfl 26 (.tmp 1) (.tmp 11) rfl w.heap.size 0 YC.toArray rfl rfl (X2.out.there ?s1) ?s2 ?s3 ?_)
  case s1 => have h1 := LX.out; have h2 := LN.out; simp; omega
  case s2 => simpa using IN.out
  case s3 => first | exact ON.out | exact all_oneCell_toArray ON.out
  have X3 := Lib.hid (X2.out.setAll YC (by rw [LX.out, LN.out]))
  generalize World.setCells _ _ _ _ = w3 at *
  have Y4 := Lib.hid (Own.newL X3.out.bel ZC 26)
  have X4 := Lib.hid (X3.out.alloc (.cells ZC.toArray 26))
  have NE := Lib.hid (Nat.ne_of_lt X3.out.lt)
  go_upto_region 3 with (first | refine wpList_load_mid rfl 26 (.tmp 1) rfl w.heap.size 0 rfl YC _ X3.out.all Tryd.underlying26 rfl IN.out ?_ | refine wpList_store_mid rfl 26 (.tmp 3) (.tmp 12) rfl w3.heap.size 0 YC.toArray rfl rfl (Y4.out.there ?s1) ?s2 ?s3 ?_)
  case s1 => have h1 := HZL.out; have h2 := LN.out; simp; omega
  case s2 => simpa using IN.out
  case s3 => first | exact ON.out | exact all_oneCell_toArray ON.out
  have Y5 := Lib.hid (Y4.out.setAll YC (by rw [HZL.out, LN.out]))
  have X5 := Lib.hid (X4.out.setAllO (Ne.symm NE.out) X3.out.bel.size 0 YC)
  generalize World.setCells _ _ _ _ = w5 at *
  clear X1 X2 X3 X4 Y4
  have c22 := X5.out.cell G22.out
  have c24 := X5.out.cell G24.out
  have c25 := X5.out.cell G25.out
  have hpe : 0 ≤ (y.pe : Int) := by omega
  have hma : 0 ≤ (y.ma : Int) := by omega
  go_upto_region 4 with (fail)
  go_wp2
  go_loop [4, 5] (fun t i => ∃ j : Nat, j ≤ 8 ∧ i = .int .i64 ((j : Int) - 1) ∧ t = .int .i64 (wantF (y.pe &&& y.ma) y.op (8 - j))) (fun _ i => (1 + intOf i).toNat)
  case atStart => exact ⟨8, by omega, rfl, rfl⟩
  case round =>
    obtain ⟨j, hk, rfl, rfl⟩ := hrel
    cases j with
    | succ m =>
      rw [show ((m + 1 : Nat) : Int) - 1 = (m : Int) by omega]
      have hm : m < 8 := by omega
      have hq0 : 0 ≤ (y.pe : Int) / 2 ^ m := Int.ediv_nonneg hpe (Int.pow_nonneg (by omega))
      have hq1 : 0 ≤ (y.ma : Int) / 2 ^ m := Int.ediv_nonneg hma (Int.pow_nonneg (by omega))
      have B1 := int_bit y.pe m
      have B2 := int_bit y.ma m
      have ST := wantF_step (y.pe &&& y.ma) y.op hm
      rw [Nat.testBit_and] at ST
      have EQ2 := Lib.hid ST
      clear ST HWF
      generalize wantF (y.pe &&& y.ma) y.op (8 - (m + 1)) = t0 at *
      generalize y.pe.testBit m = bp at *
      generalize y.ma.testBit m = bm at *
      generalize hwf : wantF (y.pe &&& y.ma) y.op (8 - m) = t1 at *
      have HW1 := Lib.hid hwf
      clear hwf
      generalize y.op = op at *
      have hm0 : 0 ≤ (m : Int) := by omega
      have hm8 : (m : Int) < 8 := by omega
      cases op with
      | false =>
        have e := Lib.hid (show t1 = t0 by rw [EQ2.out]; simp)
        clear EQ2
        go_wp2
        go_round
        case rel => exact ⟨m, by omega, rfl, by rw [HW1.out, e.out]⟩
        case measure => simp [intOf]; omega
      | true =>
        cases bp with
        | false =>
          have e := Lib.hid (show t1 = t0 by rw [EQ2.out]; simp)
          clear EQ2
          go_wp2
          go_round
          case rel => exact ⟨m, by omega, rfl, by rw [HW1.out, e.out]⟩
          case measure => simp [intOf]; omega
        | true =>
          cases bm with
          | false =>
            have e := Lib.hid (show t1 = t0 by rw [EQ2.out]; simp)
            clear EQ2
            go_wp2
            go_round
            case rel => exact ⟨m, by omega, rfl, by rw [HW1.out, e.out]⟩
            case measure => simp [intOf]; omega
          | true =>
            have e := Lib.hid (show t1 = (m : Int) by rw [EQ2.out]; simp)
            clear EQ2
            go_wp2
            go_round
            case rel => exact ⟨m, by omega, rfl, by rw [HW1.out, e.out]⟩
            case measure => simp [intOf]; omega
    | zero =>
      have e8 : (8 : Nat) - 0 = 8 := rfl
      rw [e8]
      clear e8 c22 c24 c25 hpe hma
      have NE3 := NE
      generalize w3.heap.size = N at *
      have EY2 := fun W => (EQY.out W).2
      have ER1 := fun W => (EQ.out W).1
      cases rb with
      | false =>
        obtain ⟨hw, hr⟩ := HWF.out.2 rfl
        have e1 : z = y := by rw [HTS.out]; simp
        have eYR : YC = RC := by rw [← HRC.out, e1, HY.out]
        rw [hw]
        subst hr
        have HYR := Lib.hid eYR
        clear hw e1 eYR HWF HTS
        go_upto_region 10 with (go_at_call 12; refine (NX.out _ _ X5.out.k (tab_below HT.out X5.out.bel)).mono ?_; rintro e w6 ⟨rfl, hm6⟩; have X6 := Lib.hid (drew_own X5.out hm6); have Y6 := Lib.hid (drew_own Y5.out hm6); clear hm6)
        go_upto_region 13 with (first | refine wpList_load_mid rfl 26 (.tmp 1) rfl w.heap.size 0 rfl YC _ X6.out.all Tryd.underlying26 rfl IN.out ?_ | refine wpList_load_mid rfl 26 (.tmp 3) rfl N 0 rfl YC _ Y6.out.all Tryd.underlying26 rfl IN.out ?_ | (go_at_call 13; refine (TK.out _ _ X6.out.k (tab_below HT.out X6.out.bel)).mono ?_; rintro e w7 ⟨rfl, u7⟩; have X7 := Lib.hid (X6.out.upd u7); have Y7 := Lib.hid (Y6.out.updO NE3.out X5.out.n u7); clear u7))
        rw [HYR.out] at Y7
        go_wp2_with (first | refine wpList_load_w (by rfl) 26 (.tmp 1) rfl w.heap.size 0 rfl RC _ X9.out.all Tryd.underlying26 rfl IR.out ?_ | refine wpList_load_w (by rfl) 26 (.tmp 3) rfl N 0 rfl RC _ Y9.out.all Tryd.underlying26 rfl IR.out ?_ | (go_at_call 10; refine (awake_calls _ (tab_below HT.out X7.out.bel)).mono ?_; rintro e w9 ⟨rfl, u9⟩; have X9 := Lib.hid (X7.out.step u9); have Y9 := Lib.hid (Y7.out.step u9); clear u9))
        go_ret
        exact ⟨rfl, X9.out.bel⟩
      | true =>
        obtain ⟨hw, hr, hc8, hbit⟩ := HWF.out.1 rfl
        have e1 : z = { y with pe := andn y.pe (2 ^ Lib.ctz 64 (y.pe &&& y.ma)) } := by rw [HTS.out]; simp
        have han := andn_bit y.pe YP.out _ hc8 hbit
        rw [hw]
        clear hw HWF HTS hbit
        subst hr
        generalize Lib.ctz 64 (y.pe &&& y.ma) = k at *
        have hk0 : 0 ≤ (k : Int) := by omega
        have hw1 : IntKind.u32.wrap ((2 : Int) ^ k) = ((2 ^ k : Nat) : Int) := by
          rw [show (2 : Int) ^ k = ((2 ^ k : Nat) : Int) by simp]
          exact wrap_lt (k := .u32) rfl (pow8 hc8)
        have hsub : IntKind.u32.wrap ((y.pe : Int) - ((2 ^ k : Nat) : Int)) = ((andn y.pe (2 ^ k) : Nat) : Int) := by
          rw [han.1, show (y.pe : Int) - ((2 ^ k : Nat) : Int) = ((y.pe - 2 ^ k : Nat) : Int) by have := han.2; omega]
          exact wrap_lt (k := .u32) rfl (Nat.lt_of_le_of_lt (Nat.sub_le _ _) okn.out.p)
        have S24 := Lib.hid (okn.out.s24 (andn y.pe (2 ^ k)))
        have E1 := Lib.hid e1
        clear e1 han
        generalize ((2 ^ k : Nat) : Int) = p2 at *
        generalize ((andn y.pe (2 ^ k) : Nat) : Int) = q at *
        go_upto_region 10 with (go_at_call 12; refine (NX.out _ _ X5.out.k (tab_below HT.out X5.out.bel)).mono ?_; rintro e w6 ⟨rfl, hm6⟩; have X6 := Lib.hid (drew_own X5.out hm6); have Y6 := Lib.hid (drew_own Y5.out hm6); clear hm6)
        go_upto_region 13 with (first | refine wpList_load_mid rfl 26 (.tmp 1) rfl w.heap.size 0 rfl YC _ X6.out.all Tryd.underlying26 rfl IN.out ?_ | refine wpList_load_mid rfl 26 (.tmp 3) rfl N 0 rfl YC _ Y6.out.all Tryd.underlying26 rfl IN.out ?_ | (go_at_call 13; refine (TK.out _ _ X6.out.k (tab_below HT.out X6.out.bel)).mono ?_; rintro e w7 ⟨rfl, u7⟩; have X7 := Lib.hid (X6.out.upd u7); have Y7 := Lib.hid (Y6.out.updO NE3.out X5.out.n u7); clear u7))
        have c24 := Y7.out.cell G24.out
        have f24 := Y7.out.fro 24
        have Y8 := Lib.hid ((Y7.out.drewN 1).set 24 (.int .u32 q))
        have X8 := Lib.hid ((X7.out.drewN 1).setO (Ne.symm NE3.out) Y5.out.n 24 (.int .u32 q))
        rw [show YC.set 24 (.int .u32 q) = RC by rw [← HRC.out, E1.out, ← HY.out]; exact S24.out] at Y8
        generalize (y.pe : Int) = pe at *
        go_wp2
        go_still_tail 6, (by kernel_rfl)
        change wpList _ _ _ _ _ (World.drewN _ 1)
        go_upto_region 16 with (fail)
        generalize World.setCell _ _ _ = w8 at *
        go_wp2_with (first | refine wpList_load_w (by rfl) 26 (.tmp 1) rfl w.heap.size 0 rfl RC _ X9.out.all Tryd.underlying26 rfl IR.out ?_ | refine wpList_load_w (by rfl) 26 (.tmp 3) rfl N 0 rfl RC _ Y9.out.all Tryd.underlying26 rfl IR.out ?_ | (go_at_call 10; refine (awake_calls _ (tab_below HT.out X8.out.bel)).mono ?_; rintro e w9 ⟨rfl, u9⟩; have X9 := Lib.hid (X8.out.step u9); have Y9 := Lib.hid (Y8.out.step u9); clear u9))
        go_ret
        exact ⟨rfl, X9.out.bel⟩
end Go.Proofs.YtajgiolnajneeaaDoor.Walks
