/- Walks through the functions of the statement, and the statement over them: each contract says what the call answers and that nothing else changes. -/
import Derived.Test.YteenaokcfhlemaaProg
import Derived.Laws.BytesString
import Derived.Test.YteenaokcfhlemaaBits
import Derived.Test.YteenaokcfhlemaaHeap
import Derived.Test.YteenaokcfhlemaaAid
import Derived.Lib.Hide
import Derived.Test.YteenaokcfhlemaaArr
import Derived.Test.YteenaokcfhlemaaEql
import Derived.Test.YteenaokcfhlemaaWalkPack
import Derived.Test.YteenaokcfhlemaaWalkStore
import Derived.Test.YteenaokcfhlemaaWalkTab
import Derived.Test.YteenaokcfhlemaaWalkMake
import Derived.Test.YteenaokcfhlemaaWalkEnts

import Derived.WalkKit
import Derived.WalkSpells
import Derived.WalkLawsBesides
import Derived.Deep.QuietTactic
import Derived.BigQuiet
import Derived.Deep.RegionHeld3
import Derived.Deep.DeepCutAuto
import Derived.Deep.CutBlock
import Derived.Lib.SlBytesConst
import Derived.StillTailTactics
import Derived.Laws.MakeOwn
import Derived.Deep.AppendLies
import Derived.Laws.CopyOwn
import Derived.Maps.AppendAt
import Derived.Deep.Upon
import Derived.Deep.AppendSrc
import Derived.Maps.AppendAt
import Derived.Deep.Upon
import Derived.Deep.AppendSrc
import Derived.RegionTactic
namespace Go.Proofs.Yteenaokcfhlemaa.Walks
set_option linter.unusedVariables false
set_option linter.unusedSimpArgs false
open Go.RowKit Go.Proofs.Yteenaokcfhlemaa.Bits Go.Proofs.Yteenaokcfhlemaa.Heap Go.Proofs.Yteenaokcfhlemaa.Aid Go.Proofs.Yteenaokcfhlemaa.Arr Go.Proofs.Yteenaokcfhlemaa.Eql

set_option maxHeartbeats 4000000 in
theorem all_empty (f : Int) (a : Option Addr) (cap : Nat) (P : Value) (w : World) :
    Calls Try.prog 16 #[.agg #[.int .i64 f, .slice a 0 cap], P] w fun e w' => e = .returned (.tuple #[.slice none 0 0, .slice none 0 0]) ∧ Below w.heap.size w w' := by
  have X1 := Lib.hid (Own.new (Below.refl _ w) #[.int .i64 f, .slice a 0 cap] 35)
  have WB := Lib.hid (fun (k : Nat) W => walk_bad f a 0 cap P (k : Int) (.inr (.inr rfl)) W)
  have I2 := Lib.hid sizeT
  go_enter Try.func16, Try.ntmps16
  go_upto_region 1 with (fail)
  generalize w.alloc _ = w1 at *
  go_upto_region 4 with (fail)
  go_loopw [6, 7, 11] (fun x y i wr => ∃ k : Nat, k ≤ 32 ∧ i = .int .i64 k ∧ x = .slice none 0 0 ∧ y = .slice none 0 0 ∧ Own w w.heap.size [.int .i64 f, .slice a 0 cap] 35 wr) (fun _ _ i _ => 32 - (intOf i).toNat)
  case atStart => exact ⟨0, by omega, rfl, rfl, rfl, X1.out⟩
  case round =>
    clear X1
    obtain ⟨k, hk, rfl, rfl, rfl, hx⟩ := hrel
    have X1 := Lib.hid hx
    clear hx
    by_cases hlt : k < 32
    · have hki : (k : Int) < 32 := by omega
      have hk0 : 0 ≤ (k : Int) := by omega
      have W1 := Lib.hid (WB.out k)
      clear WB
      go_upto_region 7 with (first
        | ((with_reducible refine load_gate (35) (2) ?_); refine wpList_load_mid rfl 35 (.tmp 2) rfl w.heap.size 0 rfl [.int .i64 f, .slice a 0 cap] _ X1.out.all Try.underlying35 rfl I2.out ?_)
        | (go_at_call 15; refine (W1.out _).mono ?_; rintro e w2 ⟨rfl, u2⟩; have X2 := Lib.hid (X1.out.step u2); have X3 := Lib.hid (X2.out.alloc (.cells #[.bool false, .int .i64 0, .bool false] 26)); clear u2))
      generalize World.alloc _ _ = w3 at *
      go_wp2_with fail
      go_roundw
      case rel => exact ⟨k + 1, by omega, by go_num, rfl, rfl, X3.out⟩
      case measure => simp [intOf]; omega
    · obtain rfl : k = 32 := by omega
      go_wp2_with fail
      go_ret2
      exact ⟨rfl, X1.out.bel⟩
def rightL (f : Int) (l : List Int) (k : Nat) : Bool := decide (l.length = 5 ∧ (f = 1 ∨ f = 2) ∧ ∀ x ∈ l.take k, 0 ≤ x ∧ x < 10)
theorem rightL_step (f : Int) (l : List Int) {k : Nat} (hk : k < l.length) : rightL f l (k + 1) = (rightL f l k && decide (0 ≤ l[k]) && decide (l[k] < 10)) := by
  unfold rightL
  rw [List.take_succ_eq_append_getElem hk, ← Bool.decide_and, ← Bool.decide_and, decide_eq_decide]
  constructor
  · rintro ⟨h1, h2, h3⟩
    have h4 := h3 l[k] (List.mem_append.2 (.inr (List.mem_singleton.2 rfl)))
    exact ⟨⟨⟨h1, h2, fun x hx => h3 x (List.mem_append.2 (.inl hx))⟩, h4.1⟩, h4.2⟩
  · rintro ⟨⟨⟨h1, h2, h3⟩, h4⟩, h5⟩
    refine ⟨h1, h2, fun x hx => ?_⟩
    rw [List.mem_append, List.mem_singleton] at hx
    rcases hx with hx | rfl
    · exact h3 x hx
    · exact ⟨h4, h5⟩
def ErrP (w : World) (p q : Nat) (f : Int) (l : List Int) (e : Ending) (w' : World) : Prop := ∃ (fm : Int) (a : Option Addr) (n cap : Nat) (L' : List Nat) (ev : Int),
  e = .returned (.tuple #[.agg #[.int .i64 fm, .slice a n cap], .int .i64 ev]) ∧ ev = (if rightL f l l.length = true then 0 else 1) ∧ (rightL f l l.length = false → n = 0) ∧ L'.length = 2560 ∧ Su p q L' w w'
theorem make_errs {p q : Nat} {L : List Nat} {w : World} (h : St w p q L) (hL : L.length = 2560) (f : Int) (v : Value) (l : List Int) (hr : ∀ wx, Keep (fun i => i = q) w wx → Row wx encI v l) :
    Calls Try.prog 18 #[.pointer (some ⟨p, 0, none⟩), .int .i64 f, v] w (ErrP w p q f l) := by
  obtain ⟨a, cap, rfl⟩ := (hr w (Keep.refl _ _)).form
  by_cases hok : l.length = 5 ∧ (f = 1 ∨ f = 2)
  · refine (make_calls h f hok.2 _ l hr hok.1).mono ?_
    rintro e w' (⟨⟨k, hk, hno⟩, rfl, L', hL', hu⟩ | ⟨hall, v, rfl, hu, ho⟩)
    · have hR : rightL f l l.length = false := by
        refine decide_eq_false fun h3 => hno ?_
        have h4 := h3.2.2 (l.getD k 0) (by
          rw [List.take_of_length_le (Nat.le_refl _), List.getD, List.getElem?_eq_getElem (by omega)]
          exact List.getElem_mem _)
        unfold frOk
        rw [hL]
        omega
      exact ⟨_, _, _, _, L', 1, rfl, by rw [hR]; rfl, fun _ => rfl, by rw [hL', hL], hu⟩
    · have hR : rightL f l l.length = true := by
        refine decide_eq_true ⟨hok.1, hok.2, fun x hx => ?_⟩
        rw [List.take_of_length_le (Nat.le_refl _)] at hx
        obtain ⟨i, hi, rfl⟩ := List.getElem_of_mem hx
        have h4 := hall i (by omega)
        rw [List.getD, List.getElem?_eq_getElem hi] at h4
        unfold frOk at h4
        rw [hL] at h4
        simp at h4
        omega
      obtain ⟨a2, c2, rfl⟩ := own_form ho
      refine ⟨_, _, _, _, _, 0, rfl, by rw [hR]; rfl, fun h => by rw [hR] at h; (cases h), ?_, hu⟩
      have hc5 : (clrK L l 5).length = L.length := clrK_len hall
      have h0 := hall 0 (by omega)
      unfold frOk at h0
      rw [savK_len (by rw [hc5]; omega) (by omega), hc5, hL]
  · refine (make_arg _ f a l.length cap (by omega) w).mono ?_
    rintro e w' ⟨rfl, hb⟩
    have hR : rightL f l l.length = false := decide_eq_false fun h3 => hok ⟨h3.1, h3.2.1⟩
    exact ⟨_, _, _, _, L, 1, rfl, by rw [hR]; rfl, fun _ => rfl, hL, Su.step (Su.same h) hb⟩
set_option maxRecDepth 8000 in
set_option maxHeartbeats 8000000 in
theorem errs_walk (form : Int) (v1 : Value) (page : Int) (w : World) (w0 : (Lit.int .i64 form).wf = true) (f1 : Fits w (.slice (.int .i64)) [v1]) (w2 : (Lit.int .i64 page).wf = true) :
    Calls Try.prog 6 #[.int .i64 form, v1, .int .i64 page] w fun e w' => e = .returned (.bool true) ∧ Below w.heap.size w w' := by
  obtain ⟨l, hr, hm, hl⟩ := fits_row f1
  obtain ⟨a, cap, rfl⟩ := hr.form
  by_cases h10 : l.length ≤ 10
  · have HR := Lib.hid (fun W (hb : Below w.heap.size w W) => show Row W encI (.slice a l.length cap) l from hr.below hb)
    have h10i : (l.length : Int) ≤ 10 := by omega
    have RS := Lib.hid (fun k (hk : k < l.length) => rightL_step form l hk)
    have R0 := Lib.hid (show rightL form l 0 = (decide ((l.length : Int) = 5) && (decide (form = 1) || decide (form = 2))) by
      unfold rightL
      rw [← Bool.decide_or, ← Bool.decide_and, decide_eq_decide]
      constructor
      · rintro ⟨h1, h2, _⟩; exact ⟨by omega, h2⟩
      · rintro ⟨h1, h2⟩; exact ⟨by omega, h2, fun x hx => by cases hx⟩)
    have ME := Lib.hid (fun (W : World) (p q : Nat) (h : Os w p q (List.replicate 2560 0) W) => make_errs h.k (by rw [List.length_replicate]) form (.slice a l.length cap) l (fun wx hk => hr.below (Keep.belowB h.bel hk h.bel.size (fun i hi e => by have := h.n; omega))))
    have NW := Lib.hid (fun W => new_calls 10 W)
    rw [show 256 * (min (max (10 : Int) 0) 512).toNat = 2560 from rfl] at NW
    have HC := Lib.hid (fun W (hb : Below w.heap.size w W) (k : Nat) (hk : k < l.length) => show ∃ ad, a = some ad ∧ W.cell? (ad.add k) = some (.int .i64 l[k]) by
      rcases hr.below hb with ⟨h, h0⟩ | ⟨ad, c', h, _, hc⟩
      · rw [h0] at hk; simp at hk
      · injection h with h1 _ _
        exact ⟨ad, h1, hc k _ (List.getElem?_eq_getElem hk)⟩)
    clear hr hm hl f1 w0 w2
    generalize List.replicate 2560 0 = L0 at *
    generalize hRL : rightL form l = RL at *
    have RLE := Lib.hid hRL
    clear hRL
    go_enter Try.func6, Try.ntmps6
    go_upto_region 4 with (first
      | (go_at_call 9; refine (awake_calls _).mono ?_; rintro e w1 ⟨rfl, hb⟩; have HB := Lib.hid hb; clear hb)
      | (go_at_call 17; refine (NW.out _).mono ?_; rintro e w2 ⟨rfl, k2, b2⟩; have O2 := Lib.hid (Os.new HB.out k2 b2); clear k2 b2))
    have M2 := Lib.hid (ME.out _ _ _ O2.out)
    clear ME NW HB
    generalize w1.heap.size = SQ at *
    go_upto_region 5 with (go_at_call 18; refine M2.out.mono ?_; rintro e w3 ⟨fm, a3, n3, c3, L3, ev, rfl, hev, hn3, hl3, u3⟩; have O3 := Lib.hid (O2.out.su u3); have N3 := Lib.hid (by rw [RLE.out] at hn3; exact hn3); have EV := Lib.hid (by rw [RLE.out] at hev; exact hev); clear u3 hn3 hl3 hev)
    have T4 := Lib.hid (Own.new O3.out.bel #[.int .i64 fm, .slice a3 n3 c3] 35)
    have O4 := Lib.hid (O3.out.step ((Below.refl _ _).alloc (Nat.le_refl _) (.cells #[.int .i64 fm, .slice a3 n3 c3] 35)))
    clear O2 O3 M2
    generalize w3.alloc _ = w4 at *
    generalize w3.heap.size = NT at *
    go_cut [10] (fun sv wx => sv = .bool (RL 0) ∧ w4 = wx)
    case first =>
      have hcs : ((l.length : Int) == 5) = false ∨ (((l.length : Int) == 5) = true ∧ (((form == 1) = true) ∨ ((form == 1) = false ∧ (form == 2) = true) ∨ ((form == 1) = false ∧ (form == 2) = false))) := by
        by_cases h1 : (l.length : Int) = 5
        · refine .inr ⟨beq_iff_eq.2 h1, ?_⟩
          by_cases h2 : form = 1
          · exact .inl (beq_iff_eq.2 h2)
          · by_cases h3 : form = 2
            · exact .inr (.inl ⟨beq_false_of_ne h2, beq_iff_eq.2 h3⟩)
            · exact .inr (.inr ⟨beq_false_of_ne h2, beq_false_of_ne h3⟩)
        · exact .inl (beq_false_of_ne h1)
      have RV : Hid (RL 0 = ((l.length : Int) == 5 && (form == 1 || form == 2))) := by
        have h := R0.out
        show _ = _
        rw [h]
        simp [BEq.beq]
      clear R0
      generalize RL 0 = r0 at *
      rcases hcs with h1 | ⟨h1, h2 | ⟨h2, h3⟩ | ⟨h2, h3⟩⟩
      all_goals
        have RW := RV.out
        first | simp only [h1, h2, h3, Bool.false_and, Bool.true_and, Bool.true_or, Bool.false_or] at RW | simp only [h1, h2, Bool.false_and, Bool.true_and, Bool.true_or, Bool.false_or] at RW | simp only [h1, Bool.false_and, Bool.true_and, Bool.true_or, Bool.false_or] at RW
        subst RW
        go_wp2_with fail
        go_meet
        exact ⟨rfl, rfl⟩
    case rest =>
      obtain ⟨rfl, rfl⟩ := hcut
      clear R0
      go_upto_region 7 with (fail)
      go_loop [10, 11] (fun r i => ∃ k : Nat, k ≤ l.length ∧ i = .int .i64 k ∧ r = .bool (RL k)) (fun _ i => l.length - (intOf i).toNat)
      case atStart => exact ⟨0, Nat.zero_le _, rfl, rfl⟩
      case round =>
        obtain ⟨k, hk, rfl, rfl⟩ := hrel
        by_cases hlt : k < l.length
        · obtain ⟨ad, rfl, c1⟩ := HC.out _ O4.out.bel k hlt
          have RK := Lib.hid (RS.out k hlt)
          have hki : (k : Int) < (l.length : Int) := by omega
          have hk0 : 0 ≤ (k : Int) := by omega
          generalize hr1 : RL (k + 1) = r1 at *
          have HR1 := Lib.hid hr1
          clear hr1
          generalize RL k = r0 at *
          generalize l[k] = x at *
          cases r0 with
          | false =>
            have RF : Hid (r1 = false) := RK.out
            clear RK
            go_wp2_with fail
            go_round
            case rel => exact ⟨k + 1, by omega, by go_num, by rw [HR1.out, show r1 = false from RF.out]⟩
            case measure => simp [intOf]; omega
          | true =>
            rcases (by omega : (¬ 0 ≤ x) ∨ (0 ≤ x ∧ x < 10) ∨ (0 ≤ x ∧ ¬ x < 10)) with hx | ⟨hx, hy⟩ | ⟨hx, hy⟩
            · have RF : Hid (r1 = false) := by have h := RK.out; rw [decide_eq_false hx] at h; exact h
              clear RK
              go_wp2_with fail
              go_round
              case rel => exact ⟨k + 1, by omega, by go_num, by rw [HR1.out, show r1 = false from RF.out]⟩
              case measure => simp [intOf]; omega
            · have RF : Hid (r1 = true) := by have h := RK.out; rw [decide_eq_true hx, decide_eq_true hy] at h; exact h
              clear RK
              go_wp2_with fail
              go_round
              case rel => exact ⟨k + 1, by omega, by go_num, by rw [HR1.out, show r1 = true from RF.out]⟩
              case measure => simp [intOf]; omega
            · have RF : Hid (r1 = false) := by have h := RK.out; rw [decide_eq_true hx, decide_eq_false hy] at h; exact h
              clear RK
              go_wp2_with fail
              go_round
              case rel => exact ⟨k + 1, by omega, by go_num, by rw [HR1.out, show r1 = false from RF.out]⟩
              case measure => simp [intOf]; omega
        · obtain rfl : k = l.length := by omega
          clear RS HC HR
          generalize RL l.length = rr at *
          have t1 := T4.out.cell (i := 1) rfl
          cases rr with
          | true =>
            have E0 : Hid (ev = 0) := EV.out
            rw [show ev = 0 from E0.out]
            go_upto_region 13 with (fail)
            have Z5 := Lib.hid (Own.new T4.out.bel #[.int .i64 0, .slice none 0 0] 35)
            have WK := Lib.hid (fun W => walk_bad 0 none 0 0 (.pointer (some ⟨SQ + 1, 0, none⟩)) page (.inr (.inr rfl)) W)
            have AE := Lib.hid (fun W => all_empty 0 none 0 (.pointer (some ⟨SQ + 1, 0, none⟩)) W)
            have MB := Lib.hid (fun W => map_bad 0 none 0 0 (.pointer (some ⟨SQ + 1, 0, none⟩)) page 1 true (.inr (.inr rfl)) W)
            have UB := Lib.hid (fun W => unmap_bad 0 none 0 0 (.pointer (some ⟨SQ + 1, 0, none⟩)) page (.inr (.inr rfl)) W)
            have I2 := Lib.hid sizeT
            clear T4 O4 t1
            generalize w4.alloc _ = w5 at *
            generalize w4.heap.size = NZ at *
            go_upto_region 14 with (first
              | ((with_reducible refine load_gate (35) (12) ?_); refine wpList_load_mid rfl 35 (.tmp 12) rfl NZ 0 rfl [.int .i64 0, .slice none 0 0] _ Z5.out.all Try.underlying35 rfl I2.out ?_)
              | (go_at_call 15; refine (WK.out _).mono ?_; rintro e w6 ⟨rfl, u6⟩; have Z6 := Lib.hid (Z5.out.step u6); have Z7 := Lib.hid (Z6.out.alloc (.cells #[.bool false, .int .i64 0, .bool false] 26)); clear u6))
            generalize World.alloc _ _ = w7 at *
            clear Z5 Z6
            go_wp2_with (first
              | ((with_reducible refine load_gate (35) (12) ?_); first | refine wpList_load_w (by rfl) 35 (.tmp 12) rfl NZ 0 rfl [.int .i64 0, .slice none 0 0] _ Z9.out.all Try.underlying35 rfl I2.out ?_ | refine wpList_load_w (by rfl) 35 (.tmp 12) rfl NZ 0 rfl [.int .i64 0, .slice none 0 0] _ Z8.out.all Try.underlying35 rfl I2.out ?_ | refine wpList_load_w (by rfl) 35 (.tmp 12) rfl NZ 0 rfl [.int .i64 0, .slice none 0 0] _ Z7.out.all Try.underlying35 rfl I2.out ?_)
              | (go_at_call 16; refine (AE.out _).mono ?_; rintro e w8 ⟨rfl, u8⟩; have Z8 := Lib.hid (Z7.out.step u8); clear u8)
              | (go_at_call 12; refine (MB.out _).mono ?_; rintro e w9 ⟨rfl, u9⟩; have Z9 := Lib.hid (Z8.out.step u9); clear u9)
              | (go_at_call 14; refine (UB.out _).mono ?_; rintro e w10 ⟨rfl, u10⟩; have Z10 := Lib.hid (Z9.out.step u10); clear u10))
            go_ret
            exact ⟨rfl, Z10.out.bel⟩
          | false =>
            have E0 : Hid (ev = 1) := EV.out
            rw [show ev = 1 from E0.out]
            obtain rfl : n3 = 0 := N3.out rfl
            go_upto_region 13 with (fail)
            have Z5 := Lib.hid (Own.new T4.out.bel #[.int .i64 0, .slice none 0 0] 35)
            have WK := Lib.hid (fun W => walk_bad 0 none 0 0 (.pointer (some ⟨SQ + 1, 0, none⟩)) page (.inr (.inr rfl)) W)
            have AE := Lib.hid (fun W => all_empty 0 none 0 (.pointer (some ⟨SQ + 1, 0, none⟩)) W)
            have MB := Lib.hid (fun W => map_bad 0 none 0 0 (.pointer (some ⟨SQ + 1, 0, none⟩)) page 1 true (.inr (.inr rfl)) W)
            have UB := Lib.hid (fun W => unmap_bad 0 none 0 0 (.pointer (some ⟨SQ + 1, 0, none⟩)) page (.inr (.inr rfl)) W)
            have I2 := Lib.hid sizeT
            clear T4 O4 t1
            generalize w4.alloc _ = w5 at *
            generalize w4.heap.size = NZ at *
            go_upto_region 14 with (first
              | ((with_reducible refine load_gate (35) (12) ?_); refine wpList_load_mid rfl 35 (.tmp 12) rfl NZ 0 rfl [.int .i64 0, .slice none 0 0] _ Z5.out.all Try.underlying35 rfl I2.out ?_)
              | (go_at_call 15; refine (WK.out _).mono ?_; rintro e w6 ⟨rfl, u6⟩; have Z6 := Lib.hid (Z5.out.step u6); have Z7 := Lib.hid (Z6.out.alloc (.cells #[.bool false, .int .i64 0, .bool false] 26)); clear u6))
            generalize World.alloc _ _ = w7 at *
            clear Z5 Z6
            go_wp2_with (first
              | ((with_reducible refine load_gate (35) (12) ?_); first | refine wpList_load_w (by rfl) 35 (.tmp 12) rfl NZ 0 rfl [.int .i64 0, .slice none 0 0] _ Z9.out.all Try.underlying35 rfl I2.out ?_ | refine wpList_load_w (by rfl) 35 (.tmp 12) rfl NZ 0 rfl [.int .i64 0, .slice none 0 0] _ Z8.out.all Try.underlying35 rfl I2.out ?_ | refine wpList_load_w (by rfl) 35 (.tmp 12) rfl NZ 0 rfl [.int .i64 0, .slice none 0 0] _ Z7.out.all Try.underlying35 rfl I2.out ?_)
              | (go_at_call 16; refine (AE.out _).mono ?_; rintro e w8 ⟨rfl, u8⟩; have Z8 := Lib.hid (Z7.out.step u8); clear u8)
              | (go_at_call 12; refine (MB.out _).mono ?_; rintro e w9 ⟨rfl, u9⟩; have Z9 := Lib.hid (Z8.out.step u9); clear u9)
              | (go_at_call 14; refine (UB.out _).mono ?_; rintro e w10 ⟨rfl, u10⟩; have Z10 := Lib.hid (Z9.out.step u10); clear u10))
            go_ret
            exact ⟨rfl, Z10.out.bel⟩
  · generalize l.length = n at *
    clear hr f1 hl hm w0 w2
    go_enter Try.func6, Try.ntmps6
    go_wp2_with fail
    refine (awake_calls _).mono ?_
    rintro e w1 ⟨rfl, hb⟩
    have HB := Lib.hid hb
    clear hb
    go_wp2_with fail
    refine (awake_calls _).mono ?_
    rintro e w2 ⟨rfl, hb2⟩
    have HB2 := Lib.hid hb2
    clear hb2
    go_wp2_with fail
    go_ret
    exact ⟨rfl, HB.out.trans (HB2.out.mono HB.out.size)⟩
end Go.Proofs.Yteenaokcfhlemaa.Walks
