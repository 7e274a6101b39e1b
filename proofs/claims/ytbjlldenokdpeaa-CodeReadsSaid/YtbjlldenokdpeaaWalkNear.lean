/- Walks through the functions of the statement, and the statement over them: each contract says what the call answers and that nothing else changes. -/
import Derived.Test.YtbjlldenokdpeaaProg
import Derived.Test.YtbjlldenokdpeaaBits
import Derived.Test.YtbjlldenokdpeaaHeap
import Derived.Test.YtbjlldenokdpeaaAid
import Derived.Lib.Hide
import Derived.Test.YtbjlldenokdpeaaArr
import Derived.Test.YtbjlldenokdpeaaWalkEnc
import Derived.WalkKit
import Derived.WalkSpells
import Derived.WalkLawsBesides
import Derived.Deep.QuietTactic
import Derived.BigQuiet
import Derived.Deep.DeepCutAuto
import Derived.Deep.CutBlock
import Derived.Lib.SlBytesConst
namespace Go.Proofs.Ytbjlldenokdpeaa.Walks
set_option linter.unusedVariables false
set_option linter.unusedSimpArgs false
open Go.RowKit Go.Proofs.Ytbjlldenokdpeaa.Bits Go.Proofs.Ytbjlldenokdpeaa.Heap Go.Proofs.Ytbjlldenokdpeaa.Aid Go.Proofs.Ytbjlldenokdpeaa.Arr

def nearN (c : Nat) (n : Int) : Int := if c = 18 ∨ c = 19 then ((uN n % 9 : Nat) : Int) else if fN c then n else 0
def tabF : List Int := [0, 9, 9, 7, 7, 7, 7, 7, 7, 7, 7, 11, 11, 11, 11, 11, 11, 11, 9, 9, 8, 0, 0]
def refF (c : Nat) : Int := tabF.getD c 0
theorem refF_ok (c : Nat) (h : c < 23) : tabF[c]? = some (refF c) := by
  have : ∀ c : Fin 23, tabF[c.1]? = some (refF c.1) := by decide
  exact this ⟨c, h⟩
set_option maxHeartbeats 1000000 in
theorem refFields_calls (c : Nat) (hc : c < 23) (w : World) :
    Calls Try.prog 15 #[.int .u8 c] w fun e w' => e = .returned (.int .i64 (refF c)) ∧ Below w.heap.size w w' := by
  have hci : (c : Int) < 23 := by omega
  have hc0 : 0 ≤ (c : Int) := by omega
  have hcell : (w.alloc (.cells (tabF.map (Value.int .i64)).toArray 3)).cell? ⟨w.heap.size, c, none⟩ = some (.int .i64 (refF c)) := by
    refine (Blk.new w _ _).cellAt ?_
    show (tabF.map (Value.int .i64))[c]? = _
    rw [List.getElem?_map, refF_ok c hc]; rfl
  generalize refF c = r at *
  go_enter Try.func15, Try.ntmps15
  simp only [tabF, List.map] at hcell
  go_wp2
  go_ret
  exact ⟨rfl, (Below.refl _ _).alloc (Nat.le_refl _) _⟩
theorem refF_bits (c : Nat) (h : c < 23) : refF c = (if fA c then 1 else 0) + (if fB c then 2 else 0) + (if fC c then 4 else 0) + (if fN c then 8 else 0) := by
  have : ∀ c : Fin 23, refF c.1 = (if fA (c.1 : Nat) then 1 else 0) + (if fB (c.1 : Nat) then 2 else 0) + (if fC (c.1 : Nat) then 4 else 0) + (if fN (c.1 : Nat) then 8 else 0) := by decide
  exact this ⟨c, h⟩
theorem refF_props (c : Nat) (h : c < 23) : 0 ≤ refF c ∧ refF c ≤ 15 ∧ (fA c = true ↔ refF c % 2 = 1) ∧ (fB c = true ↔ refF c / 2 % 2 = 1) ∧ (fC c = true ↔ refF c / 4 % 2 = 1) ∧ (fN c = true ↔ refF c / 8 = 1) := by
  rw [refF_bits c h]
  cases fA c <;> cases fB c <;> cases fC c <;> cases fN c <;> decide
theorem rightB_F {c a b d : Nat} {n : Int} (h : c < 23) : rightB c a b d n =
    decide ((a = 0 ∨ refF c % 2 = 1 ∧ a < 16) ∧ (b = 0 ∨ refF c / 2 % 2 = 1 ∧ b < 16) ∧ (d = 0 ∨ refF c / 4 % 2 = 1 ∧ d < 16) ∧ (refF c / 8 = 1 ∨ n = 0) ∧ (c = 18 ∨ c = 19 → 0 ≤ n ∧ n < 9)) := by
  obtain ⟨_, _, h1, h2, h3, h4⟩ := refF_props c h
  unfold rightB oneB
  rw [decide_eq_decide, decide_eq_true_iff, decide_eq_true_iff, decide_eq_true_iff, h1, h2, h3, h4]
  omega
theorem wrap16 (n : Int) : IntKind.u16.wrap n = ((uN n : Nat) : Int) := by
  simp [IntKind.wrap, IntKind.signed, IntKind.bits, uN]
  omega
set_option maxHeartbeats 1000000 in
theorem refWord_calls (c a b d : Nat) (n : Int) (hc : c < 23) (ha : a < 16) (hb : b < 16) (hd : d < 16) (w : World) :
    Calls Try.prog 14 #[.int .u8 c, .int .u8 a, .int .u8 b, .int .u8 d, .int .i16 n] w fun e w' => e = .returned (.int .u32 (wordF c a b d n : Nat)) ∧ Below w.heap.size w w' := by
  have HF := Lib.hid (refFields_calls c hc)
  obtain ⟨p0, p1, _, _, p4, _⟩ := refF_props c hc
  have EW := Lib.hid (show wordF c a b d n = wordN c a b + if fC c then d else uN n from rfl)
  generalize wordF c a b d n = res at *
  have HN := Lib.hid (show ((wordN c a b : Nat) : Int) = (c : Int) * 67108864 + (a : Int) * 4194304 + (b : Int) * 262144 by unfold wordN; omega)
  have P4 := Lib.hid p4
  clear p4
  generalize refF c = F at *
  go_enter Try.func14, Try.ntmps14
  go_wp2_with fail
  refine (HF.out _).mono ?_
  rintro e w2 ⟨rfl, hbe⟩
  have A2 := Lib.hid hbe
  clear hbe
  go_wp2
  · go_ret
    refine ⟨ret_int ?_, A2.out⟩
    have h := P4.out.2 (by simp_all)
    rw [EW.out, if_pos h]
    have := HN.out
    omega
  · go_ret
    refine ⟨ret_int ?_, A2.out⟩
    have h : ¬ fC c = true := fun h => by have := P4.out.1 h; simp_all
    rw [EW.out, if_neg h, wrap16]
    have := HN.out
    have : uN n < 65536 := by unfold uN; omega
    omega
theorem wrap9 (n : Int) : IntKind.i16.wrap ((IntKind.u16.wrap n).tmod 9) = ((uN n % 9 : Nat) : Int) := by
  rw [wrap16, show ((9 : Int)) = ((9 : Nat) : Int) from rfl, tmod_nat]
  have : uN n % 9 < 9 := Nat.mod_lt _ (by omega)
  generalize uN n % 9 = y at *
  simp [IntKind.wrap, IntKind.signed, IntKind.bits]
  omega
theorem f89 (c : Nat) (h : c = 18 ∨ c = 19) : fN c = true := decide_eq_true (by omega)
def pickIf (k : Bool) (a : Nat) : Nat := if k then a % 16 else 0
theorem mulBit (a : Nat) (x : Int) (k : Bool) (h : k = true ↔ x = 1) (h0 : 0 ≤ x) (h1 : x ≤ 1) : (a : Int) % 16 * x % 256 = ((pickIf k a : Nat) : Int) := by
  unfold pickIf
  cases k with
  | true => rw [h.1 rfl, if_pos rfl]; omega
  | false =>
    have : x = 0 := by
      have : ¬ x = 1 := fun e => by have := h.2 e; cases this
      omega
    rw [this, if_neg (by simp), Int.mul_zero]; rfl
set_option maxHeartbeats 1000000 in
theorem near_calls (c c1 a b d : Nat) (n : Int) (hc1 : c % 23 = c1) (w : World) :
    Calls Try.prog 8 #[.agg #[.int .u8 c, .int .u8 a, .int .u8 b, .int .u8 d, .int .i16 n]] w fun e w' => e = .returned (.agg #[.int .u8 c1, .int .u8 (pickIf (fA c1) a : Nat), .int .u8 (pickIf (fB c1) b : Nat), .int .u8 (pickIf (fC c1) d : Nat), .int .i16 (nearN c1 n)]) ∧ Below w.heap.size w w' := by
  have HF := Lib.hid (refFields_calls (c % 23) (by omega))
  go_enter Try.func8, Try.ntmps8
  go_upto_region 1 with (fail)
  have h2b := blocks2 w #[.int .u8 c, .int .u8 a, .int .u8 b, .int .u8 d, .int .i16 n] #[.int .u8 0, .int .u8 0, .int .u8 0, .int .u8 0, .int .i16 0] 24 24
  generalize (w.alloc (.cells #[.int .u8 c, .int .u8 a, .int .u8 b, .int .u8 d, .int .i16 n] 24)).alloc _ = w1 at *
  obtain ⟨hB, hsz, bO, bR⟩ := h2b w1 rfl
  have A1 := Lib.hid hB
  have Z1 := Lib.hid hsz
  have B1 : Hid (Blk w1 w.heap.size [.int .u8 c, .int .u8 a, .int .u8 b, .int .u8 d, .int .i16 n] 24) := bO
  have R1 : Hid (Blk w1 (w.heap.size + 1) [.int .u8 0, .int .u8 0, .int .u8 0, .int .u8 0, .int .i16 0] 24) := bR
  clear h2b hB hsz bO bR
  have hc0 : 0 ≤ (c : Int) := by omega
  have ha0 : 0 ≤ (a : Int) := by omega
  have hb0 : 0 ≤ (b : Int) := by omega
  have hd0 : 0 ≤ (d : Int) := by omega
  have c0 := B1.out.cellAt (i := 0) rfl
  have f0 := B1.out.unfrozen 0
  go_upto_region 2 with (fail)
  rw [show (c : Int) % 23 = ((c % 23 : Nat) : Int) by omega]
  have B2 : Hid (Blk (w1.setCell ⟨w.heap.size, 0, none⟩ (.int .u8 (c % 23 : Nat))) w.heap.size [.int .u8 (c % 23 : Nat), .int .u8 a, .int .u8 b, .int .u8 d, .int .i16 n] 24) := B1.out.set 0 _
  have R2 := Lib.hid (R1.out.other (show w.heap.size ≠ w.heap.size + 1 by omega) (a := ⟨w.heap.size, 0, none⟩) (.int .u8 (c % 23 : Nat)))
  have A2 := Lib.hid (A1.out.setCell (p := ⟨w.heap.size, 0, none⟩) (Nat.le_refl _) (.int .u8 (c % 23 : Nat)))
  have Z2 : Hid ((w1.setCell ⟨w.heap.size, 0, none⟩ (.int .u8 (c % 23 : Nat))).heap.size = w.heap.size + 2) := by show _ = _; rw [← Z1.out]; simp [World.setCell]
  clear B1 R1 A1 c0 f0 Z1
  generalize w1.setCell ⟨w.heap.size, 0, none⟩ (.int .u8 (c % 23 : Nat)) = w2 at *
  have hc23 : c1 < 23 := by omega
  rw [hc1] at HF B2 ⊢
  have c0 := B2.out.cellAt (i := 0) rfl
  go_wp2_with fail
  refine (HF.out _).mono ?_
  rintro e w3 ⟨rfl, hbe⟩
  have A3 := Lib.hid (A2.out.trans (hbe.mono A2.out.size))
  have B3 := Lib.hid (B2.out.below hbe (by have := Z2.out; omega))
  have R3 := Lib.hid (R2.out.below hbe (by have := Z2.out; omega))
  have Z3 : Hid (w.heap.size + 2 ≤ w3.heap.size) := by have := Z2.out; have := hbe.size; show _ ≤ _; omega
  clear hbe A2 B2 R2 Z2 c0 hc1
  obtain ⟨p0, p1, q1, q2, q3, q4⟩ := refF_props c1 hc23
  have Q1 := Lib.hid q1
  have Q2 := Lib.hid q2
  have Q3 := Lib.hid q3
  have Q4 := Lib.hid q4
  clear q1 q2 q3 q4
  generalize refF c1 = F at *
  have c1' := B3.out.cellAt (i := 1) rfl
  have f1 := B3.out.unfrozen 1
  go_upto_region 4 with (fail)
  rw [mulBit a (F % 2) (fA c1) Q1.out (by omega) (by omega)]
  obtain ⟨va, hva⟩ : ∃ v : Nat, pickIf (fA c1) a = v := ⟨_, rfl⟩
  rw [hva]
  have Hva := Lib.hid hva
  clear hva
  have B4 : Hid (Blk (w3.setCell ⟨w.heap.size, 1, none⟩ (.int .u8 (va : Nat))) w.heap.size [.int .u8 c1, .int .u8 (va : Nat), .int .u8 b, .int .u8 d, .int .i16 n] 24) := B3.out.set 1 _
  have R4 := Lib.hid (R3.out.other (show w.heap.size ≠ w.heap.size + 1 by omega) (a := ⟨w.heap.size, 1, none⟩) (.int .u8 (va : Nat)))
  have A4 := Lib.hid (A3.out.setCell (p := ⟨w.heap.size, 1, none⟩) (Nat.le_refl _) (.int .u8 (va : Nat)))
  have Z4 : Hid (w.heap.size + 2 ≤ (w3.setCell ⟨w.heap.size, 1, none⟩ (.int .u8 (va : Nat))).heap.size) := by show _ ≤ _; have := Z3.out; simpa [World.setCell] using this
  clear B3 R3 A3 Z3 c1' f1
  generalize w3.setCell ⟨w.heap.size, 1, none⟩ (.int .u8 (va : Nat)) = w4 at *
  have c2' := B4.out.cellAt (i := 2) rfl
  have f2 := B4.out.unfrozen 2
  go_upto_region 5 with (fail)
  rw [mulBit b (F / 2 % 2) (fB c1) Q2.out (by omega) (by omega)]
  obtain ⟨vb, hvb⟩ : ∃ v : Nat, pickIf (fB c1) b = v := ⟨_, rfl⟩
  rw [hvb]
  have Hvb := Lib.hid hvb
  clear hvb
  have B5 : Hid (Blk (w4.setCell ⟨w.heap.size, 2, none⟩ (.int .u8 (vb : Nat))) w.heap.size [.int .u8 c1, .int .u8 (va : Nat), .int .u8 (vb : Nat), .int .u8 d, .int .i16 n] 24) := B4.out.set 2 _
  have R5 := Lib.hid (R4.out.other (show w.heap.size ≠ w.heap.size + 1 by omega) (a := ⟨w.heap.size, 2, none⟩) (.int .u8 (vb : Nat)))
  have A5 := Lib.hid (A4.out.setCell (p := ⟨w.heap.size, 2, none⟩) (Nat.le_refl _) (.int .u8 (vb : Nat)))
  have Z5 : Hid (w.heap.size + 2 ≤ (w4.setCell ⟨w.heap.size, 2, none⟩ (.int .u8 (vb : Nat))).heap.size) := by show _ ≤ _; have := Z4.out; simpa [World.setCell] using this
  clear B4 R4 A4 Z4 c2' f2
  generalize w4.setCell ⟨w.heap.size, 2, none⟩ (.int .u8 (vb : Nat)) = w5 at *
  have c3' := B5.out.cellAt (i := 3) rfl
  have f3 := B5.out.unfrozen 3
  go_upto_region 6 with (fail)
  rw [mulBit d (F / 4 % 2) (fC c1) Q3.out (by omega) (by omega)]
  obtain ⟨vd, hvd⟩ : ∃ v : Nat, pickIf (fC c1) d = v := ⟨_, rfl⟩
  rw [hvd]
  have Hvd := Lib.hid hvd
  clear hvd
  have B6 : Hid (Blk (w5.setCell ⟨w.heap.size, 3, none⟩ (.int .u8 (vd : Nat))) w.heap.size [.int .u8 c1, .int .u8 (va : Nat), .int .u8 (vb : Nat), .int .u8 (vd : Nat), .int .i16 n] 24) := B5.out.set 3 _
  have R6 := Lib.hid (R5.out.other (show w.heap.size ≠ w.heap.size + 1 by omega) (a := ⟨w.heap.size, 3, none⟩) (.int .u8 (vd : Nat)))
  have A6 := Lib.hid (A5.out.setCell (p := ⟨w.heap.size, 3, none⟩) (Nat.le_refl _) (.int .u8 (vd : Nat)))
  have Z6 : Hid (w.heap.size + 2 ≤ (w5.setCell ⟨w.heap.size, 3, none⟩ (.int .u8 (vd : Nat))).heap.size) := by show _ ≤ _; have := Z5.out; simpa [World.setCell] using this
  clear B5 R5 A5 Z5 c3' f3
  generalize w5.setCell ⟨w.heap.size, 3, none⟩ (.int .u8 (vd : Nat)) = w6 at *
  have c0 := B6.out.cellAt (i := 0) rfl
  have c4 := B6.out.cellAt (i := 4) rfl
  have f4 := B6.out.unfrozen 4
  have I5 := Lib.hid size5
  have u9 : uN n % 9 < 9 := by omega
  have HX := Lib.hid (wrap9 n)
  have N3 := Lib.hid (f89 c1)
  by_cases hF : F / 8 = 0
  · have hn89 : ¬ (c1 = 18 ∨ c1 = 19) := fun h => by have := Q4.out.1 (N3.out h); omega
    have h18 : ¬ ((c1 : Nat) : Int) = 18 := by omega
    have h19 : ¬ ((c1 : Nat) : Int) = 19 := by omega
    have HN := Lib.hid (show nearN c1 n = 0 by unfold nearN; rw [if_neg hn89, if_neg (fun h => by have := Q4.out.1 h; omega)])
    have B7 := Lib.hid (B6.out.set 4 (.int .i16 0))
    have R7 := Lib.hid (R6.out.other (show w.heap.size ≠ w.heap.size + 1 by omega) (a := ⟨w.heap.size, 4, none⟩) (.int .i16 0))
    have A7 := Lib.hid (A6.out.setCell (p := ⟨w.heap.size, 4, none⟩) (Nat.le_refl _) (.int .i16 0))
    have hck : (w6.setCell ⟨w.heap.size, 4, none⟩ (.int .i16 0)).cell? ⟨w.heap.size, 0, none⟩ = some (.int .u8 (c1 : Nat)) := B7.out.cellAt (i := 0) rfl
    go_upto_region 8 with (fail)
    generalize w6.setCell ⟨w.heap.size, 4, none⟩ (.int .i16 0) = w7 at *
    clear c0
    have c0 := hck
    have hb18 : (((c1 : Nat) : Int) == 18) = false := by simpa using h18
    have hb19 : (((c1 : Nat) : Int) == 19) = false := by simpa using h19
    clear hck c4 f4
    go_wp2_with (first | refine wpList_load_mid rfl 24 (.tmp 1) rfl w.heap.size 0 rfl _ _ (range_all B7.out) Try.underlying24 rfl (by simpa using I5.out) ?_ | refine wpList_store_mid rfl 24 (.tmp 2) (.tmp 55) rfl (w.heap.size + 1) 0 #[.int .u8 (c1 : Nat), .int .u8 (va : Nat), .int .u8 (vb : Nat), .int .u8 (vd : Nat), .int .i16 0] rfl rfl (there_of_blk R7.out ?s1) ?s2 ?s3 ?_)
    case s1 => simp
    case s2 => simpa using I5.out
    case s3 => simp [Value.oneCell']
    have hbz := blk_setAll R7.out (vs := [.int .u8 (c1 : Nat), .int .u8 (va : Nat), .int .u8 (vb : Nat), .int .u8 (vd : Nat), .int .i16 0]) rfl
    refine bodyPost_ret (v := .agg #[.int .u8 (c1 : Nat), .int .u8 (va : Nat), .int .u8 (vb : Nat), .int .u8 (vd : Nat), .int .i16 0]) (results_cell_row Try.results8 _ _ (w.heap.size + 1) _ #[.int .u8 (c1 : Nat), .int .u8 (va : Nat), .int .u8 (vb : Nat), .int .u8 (vd : Nat), .int .i16 0] _ _ rfl hbz Try.underlying24 rfl (by simpa using I5.out)) rfl ⟨by rw [Hva.out, Hvb.out, Hvd.out, HN.out], ?_⟩
    exact below_setCells A7.out (by omega) 0 _
  · have hF8 : F / 8 = 1 := by omega
    by_cases h89 : c1 = 18 ∨ c1 = 19
    · have HN := Lib.hid (show nearN c1 n = ((uN n % 9 : Nat) : Int) by unfold nearN; rw [if_pos h89])
      obtain ⟨u, hu⟩ : ∃ u : Nat, uN n % 9 = u := ⟨_, rfl⟩
      rw [hu] at HN HX u9
      clear hu
      have B7 := Lib.hid (B6.out.set 4 (.int .i16 (u : Nat)))
      have R7 := Lib.hid (R6.out.other (show w.heap.size ≠ w.heap.size + 1 by omega) (a := ⟨w.heap.size, 4, none⟩) (.int .i16 (u : Nat)))
      have A7 := Lib.hid (A6.out.setCell (p := ⟨w.heap.size, 4, none⟩) (Nat.le_refl _) (.int .i16 (u : Nat)))
      have hq : (((c1 : Nat) : Int) == 18) = true ∨ (((c1 : Nat) : Int) == 19) = true := by simpa using (show ((c1 : Nat) : Int) = 18 ∨ ((c1 : Nat) : Int) = 19 by omega)
      go_upto_region 10 with (fail)
      all_goals first | (exfalso; simp_all; done) | skip
      all_goals rw [HX.out]
      all_goals generalize w6.setCell ⟨w.heap.size, 4, none⟩ (.int .i16 (u : Nat)) = w7 at *
      all_goals clear hq c0 c4 f4
      all_goals
        go_wp2_with (first | refine wpList_load_mid rfl 24 (.tmp 1) rfl w.heap.size 0 rfl _ _ (range_all B7.out) Try.underlying24 rfl (by simpa using I5.out) ?_ | refine wpList_store_mid rfl 24 (.tmp 2) (.tmp 55) rfl (w.heap.size + 1) 0 #[.int .u8 (c1 : Nat), .int .u8 (va : Nat), .int .u8 (vb : Nat), .int .u8 (vd : Nat), .int .i16 (u : Nat)] rfl rfl (there_of_blk R7.out ?s1) ?s2 ?s3 ?_)
        case s1 => simp
        case s2 => simpa using I5.out
        case s3 => simp [Value.oneCell']
        have hbz := blk_setAll R7.out (vs := [.int .u8 (c1 : Nat), .int .u8 (va : Nat), .int .u8 (vb : Nat), .int .u8 (vd : Nat), .int .i16 (u : Nat)]) rfl
        refine bodyPost_ret (v := .agg #[.int .u8 (c1 : Nat), .int .u8 (va : Nat), .int .u8 (vb : Nat), .int .u8 (vd : Nat), .int .i16 (u : Nat)]) (results_cell_row Try.results8 _ _ (w.heap.size + 1) _ #[.int .u8 (c1 : Nat), .int .u8 (va : Nat), .int .u8 (vb : Nat), .int .u8 (vd : Nat), .int .i16 (u : Nat)] _ _ rfl hbz Try.underlying24 rfl (by simpa using I5.out)) rfl ⟨by rw [Hva.out, Hvb.out, Hvd.out, HN.out], ?_⟩
        exact below_setCells A7.out (by omega) 0 _
    · have h18 : ¬ ((c1 : Nat) : Int) = 18 := by omega
      have h19 : ¬ ((c1 : Nat) : Int) = 19 := by omega
      have hb18 : (((c1 : Nat) : Int) == 18) = false := by simpa using h18
      have hb19 : (((c1 : Nat) : Int) == 19) = false := by simpa using h19
      have HN := Lib.hid (show nearN c1 n = n by unfold nearN; rw [if_neg h89, if_pos (Q4.out.2 hF8)])
      clear f4 c4
      go_wp2_with (first | refine wpList_load_mid rfl 24 (.tmp 1) rfl w.heap.size 0 rfl _ _ (range_all B6.out) Try.underlying24 rfl (by simpa using I5.out) ?_ | refine wpList_store_mid rfl 24 (.tmp 2) (.tmp 55) rfl (w.heap.size + 1) 0 #[.int .u8 (c1 : Nat), .int .u8 (va : Nat), .int .u8 (vb : Nat), .int .u8 (vd : Nat), .int .i16 n] rfl rfl (there_of_blk R6.out ?s1) ?s2 ?s3 ?_)
      case s1 => simp
      case s2 => simpa using I5.out
      case s3 => simp [Value.oneCell']
      have hbz := blk_setAll R6.out (vs := [.int .u8 (c1 : Nat), .int .u8 (va : Nat), .int .u8 (vb : Nat), .int .u8 (vd : Nat), .int .i16 n]) rfl
      refine bodyPost_ret (v := .agg #[.int .u8 (c1 : Nat), .int .u8 (va : Nat), .int .u8 (vb : Nat), .int .u8 (vd : Nat), .int .i16 n]) (results_cell_row Try.results8 _ _ (w.heap.size + 1) _ #[.int .u8 (c1 : Nat), .int .u8 (va : Nat), .int .u8 (vb : Nat), .int .u8 (vd : Nat), .int .i16 n] _ _ rfl hbz Try.underlying24 rfl (by simpa using I5.out)) rfl ⟨by rw [Hva.out, Hvb.out, Hvd.out, HN.out], ?_⟩
      exact below_setCells A6.out (by omega) 0 _
end Go.Proofs.Ytbjlldenokdpeaa.Walks
