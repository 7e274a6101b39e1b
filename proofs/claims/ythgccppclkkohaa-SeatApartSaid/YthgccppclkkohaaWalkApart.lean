/- Walks through the functions of the statement, and the statement over them: each contract says what the call answers and that nothing else changes. -/
import Derived.Test.YthgccppclkkohaaProg
import Derived.Test.YthgccppclkkohaaWalkSeat
import Derived.Test.YthgccppclkkohaaWalkSeat2
import Derived.Test.YthgccppclkkohaaBits
import Derived.Test.YthgccppclkkohaaHeap
import Derived.Test.YthgccppclkkohaaAid
import Derived.Lib.Hide
import Derived.Test.YthgccppclkkohaaArr
import Derived.Test.YthgccppclkkohaaEql
import Derived.WalkKit
import Derived.WalkSpells
import Derived.WalkLawsBesides
import Derived.Deep.QuietTactic
import Derived.BigQuiet
import Derived.Deep.RegionHeld3
import Derived.Deep.DeepCutAuto
import Derived.Deep.CutBlock
import Derived.Lib.SlBytesConst
import Derived.StillTailTactics
import Derived.Laws.MakeOwn
import Derived.Deep.AppendLies
import Derived.RegionTactic
import Derived.Deep.RegionLaw
namespace Go.Proofs.Ythgccppclkkohaa.Walks
set_option linter.unusedVariables false
set_option linter.unusedSimpArgs false
open Go.RowKit Go.Proofs.Ythgccppclkkohaa.Bits Go.Proofs.Ythgccppclkkohaa.Heap Go.Proofs.Ythgccppclkkohaa.Aid Go.Proofs.Ythgccppclkkohaa.Arr Go.Proofs.Ythgccppclkkohaa.Eql


theorem row26 {w : World} {v : Value} {l : List Nat} (h : Row w enc64 v l) (hl : l.length = 26) : ∃ ad c, v = .slice (some ad) 26 c ∧ ∀ k, k < 26 → ∀ wx, Below w.heap.size w wx → wx.cell? (ad.add k) = some (.int .u64 ((l.getD k 0 : Nat) : Int)) := by
  rcases h with ⟨h, h0⟩ | ⟨ad, c', h, _, hc⟩
  · rw [h0] at hl; simp at hl
  · rw [hl] at h
    refine ⟨ad, c', h, fun k hk wx hb => ?_⟩
    have h2 := hc k _ (List.getElem?_eq_getElem (show k < l.length by omega))
    rw [hb.cell (World.block_lt_of_cell? w _ h2), h2, List.getD_eq_getElem?_getD, List.getElem?_eq_getElem (show k < l.length by omega)]
    rfl
theorem flag_inj {a b : Bool} (h : flagN a = flagN b) : a = b := by cases a <;> cases b <;> simp_all [flagN]
theorem enc64_inj {a b : Nat} (h : enc64 a = enc64 b) : a = b := by
  simp only [enc64, Value.int.injEq, true_and] at h
  omega
theorem packL_inj {x y : Se} (hx : x.Ok) (hy : y.Ok) (h : packL x = packL y) : x = y := by
  obtain ⟨h1, h2⟩ := List.append_inj h (by rw [hx.l, hy.l])
  cases x; cases y
  simp only [List.cons.injEq, and_true] at h1 h2
  obtain ⟨ha, hb, hc, hd⟩ := h2
  have := flag_inj ha
  subst h1 this hb hc hd
  rfl
theorem cells_inj {x y : Se} (hx : x.Ok) (hy : y.Ok) (h : x.cells = y.cells) : x = y := by
  obtain ⟨h1, h2⟩ := List.append_inj h (by simp [hx.l, hy.l])
  have h3 := (List.map_inj_right (fun a b => enc64_inj)).1 h1
  cases x; cases y
  simp only [List.cons.injEq, and_true, Value.bool.injEq, Value.int.injEq, true_and] at h2 h3
  obtain ⟨ha, hb, hc, hd⟩ := h2
  have hb := Int.ofNat.inj hb
  have hc := Int.ofNat.inj hc
  have hd := Int.ofNat.inj hd
  subst h3 ha hb hc hd
  rfl
theorem take_all_eq {l m : List Nat} (hl : l.length = 26) (hm : m.length = 26) : decide (l.take 26 = m.take 26) = decide (l = m) := by
  rw [List.take_of_length_le (by omega), List.take_of_length_le (by omega)]
theorem take_step_eq {l m : List Nat} (hl : l.length = 26) (hm : m.length = 26) {k : Nat} (hk : k < 26) (h : decide (l.take k = m.take k) = true) :
    (((l.getD k 0 : Nat) : Int) == ((m.getD k 0 : Nat) : Int)) = decide (l.take (k + 1) = m.take (k + 1)) := by
  have h := of_decide_eq_true h
  rw [Bool.eq_iff_iff, beq_iff_eq, decide_eq_true_iff, List.take_succ_eq_append_getElem (show k < l.length by omega), List.take_succ_eq_append_getElem (show k < m.length by omega), h, List.append_cancel_left_eq]
  rw [List.getD_eq_getElem?_getD, List.getD_eq_getElem?_getD, List.getElem?_eq_getElem (show k < l.length by omega), List.getElem?_eq_getElem (show k < m.length by omega)]
  simp
  exact Int.ofNat_inj
theorem take_no {l m : List Nat} {k : Nat} (h : decide (l.take k = m.take k) = false) : decide (l = m) = false := by
  have h := of_decide_eq_false h
  exact decide_eq_false fun e => h (by rw [e])
set_option maxHeartbeats 1000000 in
theorem set_nil (w : World) : Calls Try.prog 19 #[.pointer none, .int .i64 0, .int .u64 0] w fun e w' => e = .returned (.bool false) ∧ w = w' := by
  go_enter Try.func19, Try.ntmps19
  go_wp2
  go_ret
  exact ⟨rfl, rfl⟩
set_option maxHeartbeats 4000000 in
theorem seatApart_walk (c0 c1 : List Value) (same : Bool) (w : World) (f0 : Fits w seSh c0) (f1 : Fits w seSh c1) :
    Calls Try.prog 7 #[.agg c0.toArray, .agg c1.toArray, .bool same] w fun e w' => e = .returned (.bool true) ∧ Below w.heap.size w w' := by
  obtain ⟨x, rfl, h⟩ := seat_of_fits f0
  obtain ⟨y, rfl, hy⟩ := seat_of_fits f1
  clear f0 f1
  have HX := Lib.hid (near_calls x h)
  have HY := Lib.hid (near_calls y hy)
  have LX := Lib.hid h.len
  have LY := Lib.hid hy.len
  have IX := Lib.hid (info_se h)
  have IY := Lib.hid (info_se hy)
  have oka := Lib.hid (near_ok h)
  have okb := Lib.hid (near_ok hy)
  have IA := Lib.hid (info_se oka.out)
  have IB := Lib.hid (info_se okb.out)
  have LA := Lib.hid oka.out.len
  have LB := Lib.hid okb.out.len
  have OA := Lib.hid (Se.one (nearS x))
  have OB := Lib.hid (Se.one (nearS y))
  have PA := Lib.hid (pack_calls _ oka.out)
  have PB := Lib.hid (pack_calls _ okb.out)
  have KA := Lib.hid (packL_len oka.out)
  have KB := Lib.hid (packL_len okb.out)
  have EQ := Lib.hid (fun (u v : Se) (hu : u.Ok) (hv : v.Ok) W => show (binOp .eql 26 (.agg u.cells.toArray) (.agg v.cells.toArray)).run Try.prog W = .ok (.bool (decide (packL u = packL v))) W by
    by_cases he : packL u = packL v
    · rw [packL_inj hu hv he, decide_eq_true rfl]
      exact (eql_same (P := Try.prog) (w := W) (w0 := W) (n := 3) (t := 26) (s := seSh) (by kernel_rfl) (by omega) (by kernel_rfl) (hv.fits W)).1
    · rw [decide_eq_false he]
      exact (eql_other (P := Try.prog) (w := W) (w0 := W) (n := 3) (t := 26) (s := seSh) (by kernel_rfl) (by omega) (by kernel_rfl) (hu.fits W) (hv.fits W) (fun e => he (by rw [cells_inj hu hv e]))).1)
  have EAB := Lib.hid (EQ.out _ _ oka.out okb.out)
  have EAA := Lib.hid (EQ.out _ _ oka.out oka.out)
  clear EQ
  generalize hla : packL (nearS x) = la at *
  generalize hlb : packL (nearS y) = lb at *
  generalize (nearS x).cells = AC at *
  generalize (nearS y).cells = BC at *
  generalize x.cells = XC at *
  generalize y.cells = YC at *
  clear hla hlb oka okb h hy
  have X1 : Hid (Own w w.heap.size XC 26 (w.alloc (.cells XC.toArray 26))) := Own.newL (Below.refl _ _) _ _
  have Y1 : Hid (Own w (w.alloc (.cells XC.toArray 26)).heap.size YC 26 ((w.alloc (.cells XC.toArray 26)).alloc (.cells YC.toArray 26))) := Own.newL X1.out.bel _ _
  have z1 : (w.alloc (.cells XC.toArray 26)).heap.size = w.heap.size + 1 := by simp
  rw [z1] at Y1
  have X2 := Lib.hid (X1.out.alloc (.cells YC.toArray 26))
  clear z1 X1
  have NE := Lib.hid (show w.heap.size ≠ w.heap.size + 1 by omega)
  go_enter Try.func7, Try.ntmps7
  go_upto_region 1 with (fail)
  generalize (w.alloc (.cells XC.toArray 26)).alloc _ = w2 at *
  generalize hN2 : w.heap.size + 1 = N2 at *
  clear hN2
  go_upto_region 2 with (first | refine wpList_load_mid rfl 26 (.tmp 3) rfl w.heap.size 0 rfl XC _ X2.out.all Try.underlying26 rfl IX.out ?_ | (go_at_call 9; refine (HX.out _).mono ?_; rintro e w3 ⟨rfl, u3⟩; have X3 := Lib.hid (X2.out.step u3); have Y3 := Lib.hid (Y1.out.step u3); clear u3) | refine wpList_store_mid rfl 26 (.tmp 3) (.tmp 13) rfl w.heap.size 0 AC.toArray rfl rfl (X3.out.there ?s1) ?s2 ?s3 ?_)
  case s1 => have h1 := LX.out; have h2 := LA.out; simp; omega
  case s2 => simpa using IA.out
  case s3 => first | exact OA.out | exact all_oneCell_toArray OA.out
  have X4 := Lib.hid (X3.out.setAll AC (by rw [LX.out, LA.out]))
  have Y4 := Lib.hid (Y3.out.setAllO NE.out X3.out.n 0 AC)
  generalize World.setCells _ _ _ _ = w4 at *
  clear X2 Y1 X3 Y3
  go_upto_region 3 with (first | refine wpList_load_mid rfl 26 (.tmp 4) rfl N2 0 rfl YC _ Y4.out.all Try.underlying26 rfl IY.out ?_ | (go_at_call 9; refine (HY.out _).mono ?_; rintro e w5 ⟨rfl, u5⟩; have X5 := Lib.hid (X4.out.step u5); have Y5 := Lib.hid (Y4.out.step u5); clear u5) | refine wpList_store_mid rfl 26 (.tmp 4) (.tmp 15) rfl N2 0 BC.toArray rfl rfl (Y5.out.there ?s1) ?s2 ?s3 ?_)
  case s1 => have h1 := LY.out; have h2 := LB.out; simp; omega
  case s2 => simpa using IB.out
  case s3 => first | exact OB.out | exact all_oneCell_toArray OB.out
  have Y6 := Lib.hid (Y5.out.setAll BC (by rw [LY.out, LB.out]))
  have X6 := Lib.hid (X5.out.setAllO (Ne.symm NE.out) Y5.out.n 0 BC)
  generalize World.setCells _ _ _ _ = w6 at *
  clear X4 Y4 X5 Y5 HX HY
  cases same with
  | true =>
    clear PB KB EAB
    go_upto_region 5 with (first | refine wpList_load_mid rfl 26 (.tmp 3) rfl w.heap.size 0 rfl AC _ X6.out.all Try.underlying26 rfl IA.out ?_ | refine wpList_store_mid rfl 26 (.tmp 4) (.tmp 17) rfl N2 0 AC.toArray rfl rfl (Y6.out.there ?s1) ?s2 ?s3 ?_)
    case s1 => have h1 := LA.out; have h2 := LB.out; simp; omega
    case s2 => simpa using IA.out
    case s3 => first | exact OA.out | exact all_oneCell_toArray OA.out
    have Y7 := Lib.hid (Y6.out.setAll AC (by rw [LA.out, LB.out]))
    have X7 := Lib.hid (X6.out.setAllO (Ne.symm NE.out) Y6.out.n 0 AC)
    generalize World.setCells _ _ _ _ = w7 at *
    clear X6 Y6
    obtain ⟨lc, hlc⟩ : ∃ lc, lc = la := ⟨_, rfl⟩
    have PC : Hid (∀ w, Calls Try.prog 14 #[.agg AC.toArray] w (RowP w lc)) := by rw [hlc]; exact PA
    have KC : Hid (lc.length = 26) := by rw [hlc]; exact KA
    have EAC : Hid (∀ W, (binOp .eql 26 (.agg AC.toArray) (.agg AC.toArray)).run Try.prog W = .ok (.bool (decide (la = lc))) W) := by rw [hlc]; exact Lib.hid (fun W => (EAA.out W).trans (by simp))
    clear hlc EAA
    go_upto_region 7 with (first | refine wpList_load_mid rfl 26 (.tmp 3) rfl w.heap.size 0 rfl AC _ X7.out.all Try.underlying26 rfl IA.out ?_ | refine wpList_load_mid rfl 26 (.tmp 4) rfl N2 0 rfl AC _ Y8.out.all Try.underlying26 rfl IA.out ?_ | (go_at_call 14; (with_reducible refine (PA.out w7).mono ?_); rintro e w8 ⟨v8, rfl, r8, u8⟩; have X8 := Lib.hid (X7.out.step u8); have Y8 := Lib.hid (Y7.out.step u8); have R8 := Lib.hid r8; clear u8 r8) | (go_at_call 14; (with_reducible refine (PC.out w8).mono ?_); rintro e w9 ⟨v9, rfl, r9, u9⟩; have X9 := Lib.hid (X8.out.step u9); have Y9 := Lib.hid (Y8.out.step u9); have S9 := Lib.hid r9; have R9 := Lib.hid (R8.out.below u9); clear u9 r9))
    obtain ⟨ad, cp, rfl, ra⟩ := row26 R9.out KA.out
    obtain ⟨bd, dp, rfl, rb⟩ := row26 S9.out KC.out
    have RA := Lib.hid ra
    have RB := Lib.hid rb
    clear ra rb R8 R9 S9 X7 Y7 X8 Y8 PA
    have ST := Lib.hid (fun k hk => take_step_eq (l := la) (m := lc) KA.out KC.out (k := k) hk)
    have FI := Lib.hid (take_all_eq (l := la) (m := lc) KA.out KC.out)
    have NO := Lib.hid (fun k => take_no (l := la) (m := lc) (k := k))
    have EE := EAC.out
    generalize decide (la = lc) = ee at *
    have EE2 := Lib.hid EE
    clear EE
    go_wp2
    go_loopw [9, 10] (fun t i wr => ∃ k : Nat, k ≤ 26 ∧ i = .int .i64 k ∧ t = .bool (decide (la.take k = lc.take k)) ∧ Below w9.heap.size w9 wr) (fun _ i _ => 26 - (intOf i).toNat)
    case atStart => exact ⟨0, by omega, rfl, rfl, Below.refl _ _⟩
    case round =>
      obtain ⟨k, hk, rfl, rfl, b2⟩ := hrel
      have B2 := Lib.hid b2
      clear b2
      have hk0 : 0 ≤ (k : Int) := by omega
      by_cases hgo : k < 26 ∧ decide (la.take k = lc.take k) = true
      · obtain ⟨hlt, hd⟩ := hgo
        have hk26 : (k : Int) < 26 := by omega
        have st := ST.out k hlt hd
        have ca := RA.out k hlt _ B2.out
        have cb := RB.out k hlt _ B2.out
        rw [hd]
        clear hd
        generalize he1 : decide (la.take (k + 1) = lc.take (k + 1)) = e1 at *
        have HE1 := Lib.hid he1
        clear he1
        generalize ((la.getD k 0 : Nat) : Int) = va at *
        generalize ((lc.getD k 0 : Nat) : Int) = vb at *
        go_wp2
        go_quiet (fail)
        have B3 := Lib.hid (below_drewN B2.out 1)
        go_wp2
        go_roundw
        case rel => exact ⟨k + 1, by omega, by go_num, by rw [HE1.out], below_drewN B2.out _⟩
        case measure => simp [intOf]; omega
      · have hex : decide (la.take k = lc.take k) = ee ∧ (ee = true → k = 26) := by
          cases hd : decide (la.take k = lc.take k) with
          | false => exact ⟨(NO.out k hd).symm, fun h => by rw [NO.out k hd] at h; cases h⟩
          | true =>
            have : k = 26 := by
              by_cases hlt : k < 26
              · exact absurd ⟨hlt, hd⟩ hgo
              · omega
            subst this
            rw [FI.out] at hd
            exact ⟨hd.symm, fun _ => rfl⟩
        obtain ⟨e1, e2⟩ := hex
        rw [e1]
        have hcmp : ee = true → decide ((k : Int) < 26) = false := fun h => by rw [e2 h]; rfl
        clear hgo e1 e2
        have XA := Lib.hid (X9.out.step B2.out)
        have YA := Lib.hid (Y9.out.step B2.out)
        cases ee with
        | true =>
          have hc := hcmp rfl
          clear hcmp
          have EE := EE2.out
          go_wp2_with (first | (go_at_call 10; refine (trap_nil _ _ _).mono ?_; rintro e wb ⟨rfl, rfl⟩) | (go_at_call 13; refine (back_nil _).mono ?_; rintro e wb ⟨rfl, rfl⟩) | (go_at_call 12; refine (awake_calls _).mono ?_; rintro e wc ⟨rfl, uc⟩; have XC2 := Lib.hid (XA.out.step uc); have YC2 := Lib.hid (YA.out.step uc); clear uc) | refine wpList_load_w (by rfl) 26 (.tmp 3) rfl w.heap.size 0 rfl AC _ XC2.out.all Try.underlying26 rfl IA.out ?_ | refine wpList_load_w (by rfl) 26 (.tmp 4) rfl N2 0 rfl AC _ YC2.out.all Try.underlying26 rfl IA.out ?_ | (go_at_call 19; refine (set_nil _).mono ?_; rintro e wd ⟨rfl, rfl⟩))
          go_ret
          exact ⟨rfl, XC2.out.bel⟩
        | false =>
          clear hcmp
          have EE := EE2.out
          go_wp2_with (first | (go_at_call 10; refine (trap_nil _ _ _).mono ?_; rintro e wb ⟨rfl, rfl⟩) | (go_at_call 13; refine (back_nil _).mono ?_; rintro e wb ⟨rfl, rfl⟩) | (go_at_call 12; refine (awake_calls _).mono ?_; rintro e wc ⟨rfl, uc⟩; have XC2 := Lib.hid (XA.out.step uc); have YC2 := Lib.hid (YA.out.step uc); clear uc) | refine wpList_load_w (by rfl) 26 (.tmp 3) rfl w.heap.size 0 rfl AC _ XC2.out.all Try.underlying26 rfl IA.out ?_ | refine wpList_load_w (by rfl) 26 (.tmp 4) rfl N2 0 rfl AC _ YC2.out.all Try.underlying26 rfl IA.out ?_ | (go_at_call 19; refine (set_nil _).mono ?_; rintro e wd ⟨rfl, rfl⟩))
          go_ret
          exact ⟨rfl, XC2.out.bel⟩
  | false =>
    clear EAA
    go_upto_region 5 with (fail)
    have Y7 := Lib.hid Y6.out
    have X7 := Lib.hid X6.out
    clear X6 Y6
    generalize hw7 : w6 = w7 at *
    go_upto_region 7 with (first | refine wpList_load_mid rfl 26 (.tmp 3) rfl w.heap.size 0 rfl AC _ X7.out.all Try.underlying26 rfl IA.out ?_ | refine wpList_load_mid rfl 26 (.tmp 4) rfl N2 0 rfl BC _ Y8.out.all Try.underlying26 rfl IB.out ?_ | (go_at_call 14; (with_reducible refine (PA.out w7).mono ?_); rintro e w8 ⟨v8, rfl, r8, u8⟩; have X8 := Lib.hid (X7.out.step u8); have Y8 := Lib.hid (Y7.out.step u8); have R8 := Lib.hid r8; clear u8 r8) | (go_at_call 14; (with_reducible refine (PB.out w8).mono ?_); rintro e w9 ⟨v9, rfl, r9, u9⟩; have X9 := Lib.hid (X8.out.step u9); have Y9 := Lib.hid (Y8.out.step u9); have S9 := Lib.hid r9; have R9 := Lib.hid (R8.out.below u9); clear u9 r9))
    obtain ⟨ad, cp, rfl, ra⟩ := row26 R9.out KA.out
    obtain ⟨bd, dp, rfl, rb⟩ := row26 S9.out KB.out
    have RA := Lib.hid ra
    have RB := Lib.hid rb
    clear ra rb R8 R9 S9 X7 Y7 X8 Y8 PA
    have ST := Lib.hid (fun k hk => take_step_eq (l := la) (m := lb) KA.out KB.out (k := k) hk)
    have FI := Lib.hid (take_all_eq (l := la) (m := lb) KA.out KB.out)
    have NO := Lib.hid (fun k => take_no (l := la) (m := lb) (k := k))
    have EE := EAB.out
    generalize decide (la = lb) = ee at *
    have EE2 := Lib.hid EE
    clear EE
    go_wp2
    go_loopw [9, 10] (fun t i wr => ∃ k : Nat, k ≤ 26 ∧ i = .int .i64 k ∧ t = .bool (decide (la.take k = lb.take k)) ∧ Below w9.heap.size w9 wr) (fun _ i _ => 26 - (intOf i).toNat)
    case atStart => exact ⟨0, by omega, rfl, rfl, Below.refl _ _⟩
    case round =>
      obtain ⟨k, hk, rfl, rfl, b2⟩ := hrel
      have B2 := Lib.hid b2
      clear b2
      have hk0 : 0 ≤ (k : Int) := by omega
      by_cases hgo : k < 26 ∧ decide (la.take k = lb.take k) = true
      · obtain ⟨hlt, hd⟩ := hgo
        have hk26 : (k : Int) < 26 := by omega
        have st := ST.out k hlt hd
        have ca := RA.out k hlt _ B2.out
        have cb := RB.out k hlt _ B2.out
        rw [hd]
        clear hd
        generalize he1 : decide (la.take (k + 1) = lb.take (k + 1)) = e1 at *
        have HE1 := Lib.hid he1
        clear he1
        generalize ((la.getD k 0 : Nat) : Int) = va at *
        generalize ((lb.getD k 0 : Nat) : Int) = vb at *
        go_wp2
        go_quiet (fail)
        have B3 := Lib.hid (below_drewN B2.out 1)
        go_wp2
        go_roundw
        case rel => exact ⟨k + 1, by omega, by go_num, by rw [HE1.out], below_drewN B2.out _⟩
        case measure => simp [intOf]; omega
      · have hex : decide (la.take k = lb.take k) = ee ∧ (ee = true → k = 26) := by
          cases hd : decide (la.take k = lb.take k) with
          | false => exact ⟨(NO.out k hd).symm, fun h => by rw [NO.out k hd] at h; cases h⟩
          | true =>
            have : k = 26 := by
              by_cases hlt : k < 26
              · exact absurd ⟨hlt, hd⟩ hgo
              · omega
            subst this
            rw [FI.out] at hd
            exact ⟨hd.symm, fun _ => rfl⟩
        obtain ⟨e1, e2⟩ := hex
        rw [e1]
        have hcmp : ee = true → decide ((k : Int) < 26) = false := fun h => by rw [e2 h]; rfl
        clear hgo e1 e2
        have XA := Lib.hid (X9.out.step B2.out)
        have YA := Lib.hid (Y9.out.step B2.out)
        cases ee with
        | true =>
          have hc := hcmp rfl
          clear hcmp
          have EE := EE2.out
          go_wp2_with (first | (go_at_call 10; refine (trap_nil _ _ _).mono ?_; rintro e wb ⟨rfl, rfl⟩) | (go_at_call 13; refine (back_nil _).mono ?_; rintro e wb ⟨rfl, rfl⟩) | (go_at_call 12; refine (awake_calls _).mono ?_; rintro e wc ⟨rfl, uc⟩; have XC2 := Lib.hid (XA.out.step uc); have YC2 := Lib.hid (YA.out.step uc); clear uc) | refine wpList_load_w (by rfl) 26 (.tmp 3) rfl w.heap.size 0 rfl AC _ XC2.out.all Try.underlying26 rfl IA.out ?_ | refine wpList_load_w (by rfl) 26 (.tmp 4) rfl N2 0 rfl BC _ YC2.out.all Try.underlying26 rfl IB.out ?_ | (go_at_call 19; refine (set_nil _).mono ?_; rintro e wd ⟨rfl, rfl⟩))
          go_ret
          exact ⟨rfl, XC2.out.bel⟩
        | false =>
          clear hcmp
          have EE := EE2.out
          go_wp2_with (first | (go_at_call 10; refine (trap_nil _ _ _).mono ?_; rintro e wb ⟨rfl, rfl⟩) | (go_at_call 13; refine (back_nil _).mono ?_; rintro e wb ⟨rfl, rfl⟩) | (go_at_call 12; refine (awake_calls _).mono ?_; rintro e wc ⟨rfl, uc⟩; have XC2 := Lib.hid (XA.out.step uc); have YC2 := Lib.hid (YA.out.step uc); clear uc) | refine wpList_load_w (by rfl) 26 (.tmp 3) rfl w.heap.size 0 rfl AC _ XC2.out.all Try.underlying26 rfl IA.out ?_ | refine wpList_load_w (by rfl) 26 (.tmp 4) rfl N2 0 rfl BC _ YC2.out.all Try.underlying26 rfl IB.out ?_ | (go_at_call 19; refine (set_nil _).mono ?_; rintro e wd ⟨rfl, rfl⟩))
          go_ret
          exact ⟨rfl, XC2.out.bel⟩
end Go.Proofs.Ythgccppclkkohaa.Walks
