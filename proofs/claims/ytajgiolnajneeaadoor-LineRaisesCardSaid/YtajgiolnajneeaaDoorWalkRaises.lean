/- Walks through the functions of the statement, and the statement over them: each contract says what the call answers and that nothing else changes. -/
import Derived.Test.YtajgiolnajneeaaDoorProg
import Derived.Test.YtajgiolnajneeaaDoorWalkLine
import Derived.Test.YtajgiolnajneeaaDoorBits
import Derived.Test.YtajgiolnajneeaaDoorHeap
import Derived.Test.YtajgiolnajneeaaDoorAid
import Derived.Lib.Hide
import Derived.Test.YtajgiolnajneeaaDoorArr
import Derived.Test.YtajgiolnajneeaaDoorEql
import Derived.WalkKit
import Derived.WalkSpells
import Derived.WalkLawsBesides
import Derived.Deep.QuietTactic
import Derived.BigQuiet
import Derived.Deep.RegionHeld3
import Derived.Deep.DeepCutAuto
import Derived.Deep.CutBlock
import Derived.Lib.SlBytesConst
import Derived.StillTailTactics
import Derived.RegionTactic
import Derived.Shelf.Spec.TrailingZeros
namespace Go.Proofs.YtajgiolnajneeaaDoor.Walks
set_option linter.unusedVariables false
set_option linter.unusedSimpArgs false
open Go.RowKit Go.Proofs.YtajgiolnajneeaaDoor.Bits Go.Proofs.YtajgiolnajneeaaDoor.Heap Go.Proofs.YtajgiolnajneeaaDoor.Aid Go.Proofs.YtajgiolnajneeaaDoor.Arr Go.Proofs.YtajgiolnajneeaaDoor.Eql

set_option maxHeartbeats 2000000 in
theorem lineRaises_walk (c : List Value) (n : Int) (w : World) (f : Fits w seSh c) (wn : (Lit.int .i64 n).wf = true) (hT : TabAt 0 Lib.deBruijn64tab w) :
    Calls Tryd.prog 3 #[.agg c.toArray, .int .i64 n] w fun e w' => e = .returned (.bool true) ∧ Below w.heap.size w w' := by
  obtain ⟨x, rfl, h⟩ := seat_of_fits f
  have HR := Lib.hid (raise_calls _ (near_ok h) n)
  have okr := Lib.hid (raise_ok (near_ok h) n)
  have EQ := Lib.hid (fun W => (eql_same (P := Tryd.prog) (w := W) (w0 := W) (n := 3) (t := 26) (s := seSh) (by kernel_rfl) (by omega) (by kernel_rfl) (okr.out.fits W)).1)
  have IR := Lib.hid (info_se okr.out)
  have HRS := Lib.hid (show raiseS (nearS x) n = if 0 ≤ n ∧ n < 8 ∧ (nearS x).st ≠ 2 then wakeS { nearS x with pe := (nearS x).pe ||| 2 ^ n.toNat } else nearS x from rfl)
  have HRE := Lib.hid (show raiseE (nearS x) n = if 0 ≤ n ∧ n < 8 then if (nearS x).st = 2 then 10 else 0 else 1 from rfl)
  generalize raiseS (nearS x) n = z at *
  generalize raiseE (nearS x) n = er at *
  generalize hRC : z.cells = RC at *
  have HRC := Lib.hid hRC
  clear hRC wn
  have HN := Lib.hid (near_calls x h)
  have okn := Lib.hid (near_ok h)
  have LX := Lib.hid h.len
  have IX := Lib.hid (info_se h)
  have IN := Lib.hid (info_se okn.out)
  have LN := Lib.hid okn.out.len
  have ON := Lib.hid (Se.one (nearS x))
  have G22 := Lib.hid okn.out.g22
  have G23 := Lib.hid okn.out.g23
  have G24 := Lib.hid okn.out.g24
  have G25 := Lib.hid okn.out.g25
  have YP : Hid ((nearS x).pe < 256) := Nat.mod_lt _ (by omega)
  have YM : Hid ((nearS x).ma < 256) := Nat.mod_lt _ (by omega)
  have HA := Lib.hid (bits_and (k := .u32) rfl okn.out.p okn.out.m)
  have hz := zero_val
  have HZL := Lib.hid zero_ok.len
  have HT := Lib.hid hT
  clear hT f
  generalize nearS x = y at *
  generalize hY : y.cells = YC at *
  generalize x.cells = XC at *
  generalize zeroSe.cells = ZC at *
  have hzs : ZC.toArray.size = 26 := by simpa using HZL.out
  have hzn : ¬ ZC.toArray = #[] := fun h => by rw [h] at hzs; simp at hzs
  have HY := Lib.hid hY
  clear hY
  have X1 : Hid (Own w w.heap.size XC 26 (w.alloc (.cells XC.toArray 26))) := Own.newL (Below.refl _ _) _ _
  go_enter Tryd.func3, Tryd.ntmps3
  go_upto_region 1 with (fail)
  generalize w.alloc (.cells XC.toArray 26) = w1 at *
  go_upto_region 2 with (first | refine wpList_load_mid rfl 26 (.tmp 2) rfl w.heap.size 0 rfl XC _ X1.out.all Tryd.underlying26 rfl IX.out ?_ | (go_at_call 8; refine (HN.out _).mono ?_; rintro e w2 ⟨rfl, u2⟩; have X2 := Lib.hid (X1.out.step u2); clear u2) | refine wpList_store_mid rfl 26 (.tmp 2) (.tmp 9) rfl w.heap.size 0 YC.toArray rfl rfl (X2.out.there ?s1) ?s2 ?s3 ?_)
  case s1 => have h1 := LX.out; have h2 := LN.out; simp; omega
  case s2 => simpa using IN.out
  case s3 => first | exact ON.out | exact all_oneCell_toArray ON.out
  have X3 := Lib.hid (X2.out.setAll YC (by rw [LX.out, LN.out]))
  generalize World.setCells _ _ _ _ = w3 at *
  have Y4 := Lib.hid (Own.newL X3.out.bel ZC 26)
  have X4 := Lib.hid (X3.out.alloc (.cells ZC.toArray 26))
  have NE := Lib.hid (Nat.ne_of_lt X3.out.lt)
  go_upto_region 3 with (first | refine wpList_load_mid rfl 26 (.tmp 2) rfl w.heap.size 0 rfl YC _ X3.out.all Tryd.underlying26 rfl IN.out ?_ | refine wpList_store_mid rfl 26 (.tmp 5) (.tmp 10) rfl w3.heap.size 0 YC.toArray rfl rfl (Y4.out.there ?s1) ?s2 ?s3 ?_)
  case s1 => have h1 := HZL.out; have h2 := LN.out; simp; omega
  case s2 => simpa using IN.out
  case s3 => first | exact ON.out | exact all_oneCell_toArray ON.out
  have Y5 := Lib.hid (Y4.out.setAll YC (by rw [HZL.out, LN.out]))
  have X5 := Lib.hid (X4.out.setAllO (Ne.symm NE.out) X3.out.bel.size 0 YC)
  generalize World.setCells _ _ _ _ = w5 at *
  clear X1 X2 X3 X4 Y4
  go_upto_region 4 with (go_at_call 9; refine (HR.out _ _ X5.out.k).mono ?_; rintro e w6 ⟨rfl, u6⟩; have X6 := Lib.hid (X5.out.upd u6); have Y6 := Lib.hid (Y5.out.updO NE.out X5.out.n u6); clear u6)
  have c23 := Y6.out.cell G23.out
  have c24 := Y6.out.cell G24.out
  have c25 := Y6.out.cell G25.out
  have f23 := Y6.out.fro 23
  have f24 := Y6.out.fro 24
  have hst : 0 ≤ (y.st : Int) := by omega
  generalize w3.heap.size = N at *
  have EQ2 := EQ.out
  by_cases hn : 0 ≤ n ∧ n < 8
  · obtain ⟨hn0, hn8⟩ := hn
    have hr : decide (0 ≤ n ∧ n < 8) = true := decide_eq_true ⟨hn0, hn8⟩
    by_cases hd : y.st = 2
    · have e1 : z = y := by rw [HRS.out, if_neg (fun h => h.2.2 hd)]
      have e2 : er = 10 := by rw [HRE.out, if_pos ⟨hn0, hn8⟩, if_pos hd]
      have Y7 := Y6
      rw [show YC = RC by rw [← HRC.out, e1, HY.out]] at Y7
      have hs : ((y.st : Int) == 2) = true := by simp [hd]
      rw [e2]
      clear e1 e2 hd
      go_wp2_with (first | refine wpList_load_w (by rfl) 26 (.tmp 2) rfl w.heap.size 0 rfl RC _ X8.out.all Tryd.underlying26 rfl IR.out ?_ | refine wpList_load_w (by rfl) 26 (.tmp 5) rfl N 0 rfl RC _ Y8.out.all Tryd.underlying26 rfl IR.out ?_ | (go_at_call 10; refine (awake_calls _ (tab_below HT.out X6.out.bel)).mono ?_; rintro e w8 ⟨rfl, u8⟩; have X8 := Lib.hid (X6.out.step u8); have Y8 := Lib.hid (Y7.out.step u8); clear u8) | (go_at_call 11; refine (right_calls _ _).mono ?_; rintro e w9 ⟨rfl, rfl⟩))
      go_ret
      exact ⟨rfl, X8.out.bel⟩
    · obtain ⟨k, rfl⟩ := Int.eq_ofNat_of_zero_le hn0
      have hk : k < 8 := by omega
      have oky : Hid (({ y with pe := y.pe ||| 2 ^ k } : Se).Ok) := orp_ok okn.out hk
      have e1 : z = wakeS { y with pe := y.pe ||| 2 ^ k } := by rw [HRS.out, if_pos ⟨hn0, hn8, hd⟩]; rfl
      have e2 : er = 0 := by rw [HRE.out, if_pos ⟨hn0, hn8⟩, if_neg hd]
      rw [e2]
      have hs : ((y.st : Int) == 2) = false := by simp; omega
      have hor := bits_or (k := .u32) rfl okn.out.p (pow8 hk)
      have hw1 : IntKind.u32.wrap ((2 : Int) ^ k) = ((2 ^ k : Nat) : Int) := by
        rw [show (2 : Int) ^ k = ((2 ^ k : Nat) : Int) by simp]
        exact wrap_lt (k := .u32) rfl (pow8 hk)
      have Y7 := Lib.hid ((Y6.out.drewN 1).set 24 (.int .u32 ((y.pe ||| 2 ^ k : Nat) : Int)))
      have X7 := Lib.hid ((X6.out.drewN 1).setO (Ne.symm NE.out) Y6.out.n 24 (.int .u32 ((y.pe ||| 2 ^ k : Nat) : Int)))
      rw [← HY.out, okn.out.s24] at Y7
      have HAA := Lib.hid (bits_and (k := .u32) rfl oky.out.p oky.out.m)
      have HW := Lib.hid (show wakeS { y with pe := y.pe ||| 2 ^ k } = if y.st = 1 ∧ (y.pe ||| 2 ^ k) &&& y.ma ≠ 0 then { y with pe := y.pe ||| 2 ^ k, st := 0 } else { y with pe := y.pe ||| 2 ^ k } from rfl)
      rw [← e1] at HW
      have S23 := Lib.hid (oky.out.s23 0)
      have K23 := Lib.hid oky.out.g23
      have K24 := Lib.hid oky.out.g24
      have K25 := Lib.hid oky.out.g25
      have HP := Lib.hid (show ((y.pe ||| 2 ^ k : Nat) : Int) = ((y.pe ||| 2 ^ k : Nat) : Int) from rfl)
      have e3 : ({ y with pe := y.pe ||| 2 ^ k } : Se).pe = y.pe ||| 2 ^ k := rfl
      have e4 : ({ y with pe := y.pe ||| 2 ^ k } : Se).ma = y.ma := rfl
      have e5 : ({ y with pe := y.pe ||| 2 ^ k } : Se).st = y.st := rfl
      rw [e3, e4] at HAA
      rw [e3] at K24
      rw [e4] at K25
      rw [e5] at K23
      clear e1 e2 e3 e4 e5 hd HP
      generalize ((2 ^ k : Nat) : Int) = p2 at *
      generalize hPP : y.pe ||| 2 ^ k = pp at *
      clear hPP
      generalize (pp : Int) = q at *
      generalize (y.pe : Int) = pe at *
      go_wp2_with (go_at_call 11; refine (right_calls _ _).mono ?_; rintro e w9 ⟨rfl, rfl⟩)
      go_still_tail 6, (by kernel_rfl)
      change wpList _ _ _ _ _ (World.drewN _ 1)
      go_upto_region 8 with (fail)
      generalize World.setCell _ _ _ = w7 at *
      clear c23 c24 c25 f23 f24
      have c23 := Y7.out.cell K23.out
      have c24 := Y7.out.cell K24.out
      have c25 := Y7.out.cell K25.out
      have f23 := Y7.out.fro 23
      by_cases hc : y.st = 1 ∧ pp &&& y.ma ≠ 0
      · have e1 : z = { y with pe := pp, st := 0 } := by rw [HW.out, if_pos hc]
        have hs1 : ((y.st : Int) == 1) = true := by simp [hc.1]
        have hq : (Go.bits .and .u32 q (y.ma : Int) == 0) = false := by rw [HAA.out]; simpa using hc.2
        have Y8 := Lib.hid (Y7.out.set 23 (.int .u8 0))
        have X8 := Lib.hid (X7.out.setO (Ne.symm NE.out) Y7.out.n 23 (.int .u8 0))
        rw [show ({ y with pe := pp } : Se).cells.set 23 (.int .u8 0) = RC from S23.out.trans (by rw [← HRC.out, e1])] at Y8
        clear e1 hc
        go_upto_region 10 with (fail)
        generalize World.setCell _ _ _ = w8 at *
        go_wp2_with (first | refine wpList_load_w (by rfl) 26 (.tmp 2) rfl w.heap.size 0 rfl RC _ X9.out.all Tryd.underlying26 rfl IR.out ?_ | refine wpList_load_w (by rfl) 26 (.tmp 5) rfl N 0 rfl RC _ Y9.out.all Tryd.underlying26 rfl IR.out ?_ | (go_at_call 10; refine (awake_calls _ (tab_below HT.out X8.out.bel)).mono ?_; rintro e w9 ⟨rfl, u9⟩; have X9 := Lib.hid (X8.out.step u9); have Y9 := Lib.hid (Y8.out.step u9); clear u9) | (go_at_call 11; refine (right_calls _ _).mono ?_; rintro e w10 ⟨rfl, rfl⟩))
        go_ret
        exact ⟨rfl, X9.out.bel⟩
      · have e1 : z = { y with pe := pp } := by rw [HW.out, if_neg hc]
        have Y8 := Y7
        rw [show ({ y with pe := pp } : Se).cells = RC by rw [← HRC.out, e1]] at Y8
        by_cases hc1 : y.st = 1
        · have hs1 : ((y.st : Int) == 1) = true := by simp [hc1]
          have hq : (Go.bits .and .u32 q (y.ma : Int) == 0) = true := by
            rw [HAA.out]
            have : pp &&& y.ma = 0 := by
              rcases Nat.eq_zero_or_pos (pp &&& y.ma) with h0 | h0
              · exact h0
              · exact absurd ⟨hc1, by omega⟩ hc
            simp [this]
          clear e1 hc hc1
          go_wp2_with (first | refine wpList_load_w (by rfl) 26 (.tmp 2) rfl w.heap.size 0 rfl RC _ X9.out.all Tryd.underlying26 rfl IR.out ?_ | refine wpList_load_w (by rfl) 26 (.tmp 5) rfl N 0 rfl RC _ Y9.out.all Tryd.underlying26 rfl IR.out ?_ | (go_at_call 10; refine (awake_calls _ (tab_below HT.out X7.out.bel)).mono ?_; rintro e w9 ⟨rfl, u9⟩; have X9 := Lib.hid (X7.out.step u9); have Y9 := Lib.hid (Y8.out.step u9); clear u9) | (go_at_call 11; refine (right_calls _ _).mono ?_; rintro e w10 ⟨rfl, rfl⟩))
          go_ret
          exact ⟨rfl, X9.out.bel⟩
        · have hs1 : ((y.st : Int) == 1) = false := by simp; omega
          clear e1 hc hc1
          go_wp2_with (first | refine wpList_load_w (by rfl) 26 (.tmp 2) rfl w.heap.size 0 rfl RC _ X9.out.all Tryd.underlying26 rfl IR.out ?_ | refine wpList_load_w (by rfl) 26 (.tmp 5) rfl N 0 rfl RC _ Y9.out.all Tryd.underlying26 rfl IR.out ?_ | (go_at_call 10; refine (awake_calls _ (tab_below HT.out X7.out.bel)).mono ?_; rintro e w9 ⟨rfl, u9⟩; have X9 := Lib.hid (X7.out.step u9); have Y9 := Lib.hid (Y8.out.step u9); clear u9) | (go_at_call 11; refine (right_calls _ _).mono ?_; rintro e w10 ⟨rfl, rfl⟩))
          go_ret
          exact ⟨rfl, X9.out.bel⟩
  · have hr : decide (0 ≤ n ∧ n < 8) = false := decide_eq_false hn
    have e1 : z = y := by rw [HRS.out, if_neg (fun h => hn ⟨h.1, h.2.1⟩)]
    have e2 : er = 1 := by rw [HRE.out, if_neg hn]
    have Y7 := Y6
    rw [show YC = RC by rw [← HRC.out, e1, HY.out]] at Y7
    rw [e2]
    clear e1 e2
    by_cases hn0 : 0 ≤ n
    · have hn8 : decide (n < 8) = false := decide_eq_false fun h => hn ⟨hn0, h⟩
      clear hn
      go_wp2_with (first | refine wpList_load_w (by rfl) 26 (.tmp 2) rfl w.heap.size 0 rfl RC _ X8.out.all Tryd.underlying26 rfl IR.out ?_ | refine wpList_load_w (by rfl) 26 (.tmp 5) rfl N 0 rfl RC _ Y8.out.all Tryd.underlying26 rfl IR.out ?_ | (go_at_call 10; refine (awake_calls _ (tab_below HT.out X6.out.bel)).mono ?_; rintro e w8 ⟨rfl, u8⟩; have X8 := Lib.hid (X6.out.step u8); have Y8 := Lib.hid (Y7.out.step u8); clear u8) | (go_at_call 11; refine (right_calls _ _).mono ?_; rintro e w9 ⟨rfl, rfl⟩))
      go_ret
      exact ⟨rfl, X8.out.bel⟩
    · clear hn
      go_wp2_with (first | refine wpList_load_w (by rfl) 26 (.tmp 2) rfl w.heap.size 0 rfl RC _ X8.out.all Tryd.underlying26 rfl IR.out ?_ | refine wpList_load_w (by rfl) 26 (.tmp 5) rfl N 0 rfl RC _ Y8.out.all Tryd.underlying26 rfl IR.out ?_ | (go_at_call 10; refine (awake_calls _ (tab_below HT.out X6.out.bel)).mono ?_; rintro e w8 ⟨rfl, u8⟩; have X8 := Lib.hid (X6.out.step u8); have Y8 := Lib.hid (Y7.out.step u8); clear u8) | (go_at_call 11; refine (right_calls _ _).mono ?_; rintro e w9 ⟨rfl, rfl⟩))
      go_ret
      exact ⟨rfl, X8.out.bel⟩
end Go.Proofs.YtajgiolnajneeaaDoor.Walks
