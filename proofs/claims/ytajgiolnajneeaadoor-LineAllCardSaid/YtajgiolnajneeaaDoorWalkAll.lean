/- Walks through the functions of the statement, and the statement over them: each contract says what the call answers and that nothing else changes. -/
import Derived.Test.YtajgiolnajneeaaDoorProg
import Derived.Test.YtajgiolnajneeaaDoorWalkLine
import Derived.Test.YtajgiolnajneeaaDoorBits
import Derived.Test.YtajgiolnajneeaaDoorHeap
import Derived.Test.YtajgiolnajneeaaDoorAid
import Derived.Lib.Hide
import Derived.Test.YtajgiolnajneeaaDoorArr
import Derived.Test.YtajgiolnajneeaaDoorEql
import Derived.WalkKit
import Derived.WalkSpells
import Derived.WalkLawsBesides
import Derived.Deep.QuietTactic
import Derived.BigQuiet
import Derived.Deep.RegionHeld3
import Derived.Deep.DeepCutAuto
import Derived.Deep.CutBlock
import Derived.Lib.SlBytesConst
import Derived.StillTailTactics
import Derived.RegionTactic
import Derived.Shelf.Spec.TrailingZeros
namespace Go.Proofs.YtajgiolnajneeaaDoor.Walks
set_option linter.unusedVariables false
set_option linter.unusedSimpArgs false
open Go.RowKit Go.Proofs.YtajgiolnajneeaaDoor.Bits Go.Proofs.YtajgiolnajneeaaDoor.Heap Go.Proofs.YtajgiolnajneeaaDoor.Aid Go.Proofs.YtajgiolnajneeaaDoor.Arr Go.Proofs.YtajgiolnajneeaaDoor.Eql

theorem Own.store {P : Program} {w w1 : World} {b : Nat} {cs : List Value} {t : TypeId} (h : Own w b cs t w1) (vs : List Value) (hl : vs.length = cs.length) (h1 : ∀ v ∈ vs, v.oneCell' = true) :
    (storeCells ⟨b, 0, none⟩ vs).run P w1 = .ok () (w1.setCells b 0 vs) := by
  have ht := h.there (n := vs.length) (by omega)
  exact run_storeCells_cells (P := P) b 0 vs 0 w1 (fun j hj => by simpa using (ht j hj).1) (fun j hj => by simpa using (ht j hj).2) h1
def sall (m p : Nat) : Se := { zeroSe with op := true, ma := m, pe := p }
theorem sall_ok {m p : Nat} (hm : m < 256) (hp : p < 256) : (sall m p).Ok := ⟨zero_ok.l, zero_ok.w, zero_ok.s, by show p < 2 ^ 32; omega, by show m < 2 ^ 32; omega⟩
theorem raise_sall (m p : Nat) {k : Nat} (hk : k < 8) : raiseS (sall m p) (k : Nat) = sall m (p ||| 2 ^ k) ∧ raiseE (sall m p) (k : Nat) = 0 := by
  constructor
  · unfold raiseS
    rw [if_pos ⟨by omega, by omega, by show (0 : Nat) ≠ 2; omega⟩]
    unfold wakeS
    rw [if_neg (fun h => by have := h.1; simp [sall, zeroSe] at this)]
    simp [sall]
  · unfold raiseE
    rw [if_pos ⟨by omega, by omega⟩, if_neg (by show (0 : Nat) ≠ 2; omega)]
def orAll (l : List Nat) : Nat := l.foldl (fun p x => p ||| 2 ^ (x % 8)) 0
theorem orAll_snoc (l : List Nat) (x : Nat) : orAll (l ++ [x]) = orAll l ||| 2 ^ (x % 8) := by simp [orAll]
theorem pow8' {k : Nat} (h : k < 8) : 2 ^ k < 256 := by show 2 ^ k < 2 ^ 8; exact Nat.pow_lt_pow_right (by omega) h
theorem or256 {p k : Nat} (hp : p < 256) (hk : k < 8) : p ||| 2 ^ k < 256 := Nat.or_lt_two_pow (n := 8) hp (pow8' hk)
theorem orAll_lt (l : List Nat) : orAll l < 256 := by
  have h : ∀ (l : List Nat) (p : Nat), p < 256 → l.foldl (fun p x => p ||| 2 ^ (x % 8)) p < 256 := by
    intro l
    induction l with
    | nil => exact fun p hp => hp
    | cons x l ih => exact fun p hp => ih _ (or256 hp (Nat.mod_lt _ (by omega)))
  exact h l 0 (by omega)
def rz (p : Nat) : List Value := (List.range 8).map fun j => .bool (p.testBit j)
theorem rz_get (p : Nat) {k : Nat} (hk : k < 8) : (rz p)[k]? = some (.bool (p.testBit k)) := by
  rw [rz, List.getElem?_map, List.getElem?_range hk]; rfl
theorem rz_set (p : Nat) {k : Nat} (hk : k < 8) : (rz p).set k (.bool true) = rz (p ||| 2 ^ k) := by
  apply List.ext_getElem?
  intro j
  rw [List.getElem?_set]
  by_cases hj : j < 8
  · rw [rz_get _ hj, rz_get _ hj, Nat.testBit_or, Nat.testBit_two_pow]
    by_cases e : k = j
    · subst e; simp [rz, hk]
    · simp [e]
  · have h1 : (rz p).length = 8 := rfl
    have h2 : (rz (p ||| 2 ^ k)).length = 8 := rfl
    rw [if_neg (by omega), List.getElem?_eq_none (by omega), List.getElem?_eq_none (by omega)]
/-- What is still raised, behind the first lines. -/
def clr (p m : Nat) : Nat → Nat
  | 0 => p
  | i + 1 => if (p.testBit i && m.testBit i) = true then andn (clr p m i) (2 ^ i) else clr p m i
theorem clr_bit (p m : Nat) : ∀ i j, (clr p m i).testBit j = (p.testBit j && !(decide (j < i) && m.testBit j)) := by
  intro i
  induction i with
  | zero => intro j; simp [clr]
  | succ i ih =>
    intro j
    simp only [clr]
    by_cases h : (p.testBit i && m.testBit i) = true
    · rw [if_pos h, testBit_andn, ih, Nat.testBit_two_pow]
      rw [Bool.and_eq_true] at h
      by_cases e : i = j
      · subst e; simp [h.1, h.2]
      · have : decide (j < i + 1) = decide (j < i) := by rw [decide_eq_decide]; omega
        simp [e, this]
    · rw [if_neg h, ih]
      by_cases e : i = j
      · subst e
        cases h1 : p.testBit i <;> cases h2 : m.testBit i <;> simp_all
      · have : decide (j < i + 1) = decide (j < i) := by rw [decide_eq_decide]; omega
        rw [this]
theorem clr_lt {p m : Nat} (hp : p < 256) : ∀ i, i ≤ 8 → clr p m i < 256 := by
  intro i
  induction i with
  | zero => exact fun _ => hp
  | succ i ih =>
    intro h
    simp only [clr]
    split
    · exact andn_lt (b := 8) (ih (by omega)) (pow8' (by omega))
    · exact ih (by omega)
theorem clr_and (p m i j : Nat) : (clr p m i &&& m).testBit j = (p.testBit j && m.testBit j && decide (i ≤ j)) := by
  rw [Nat.testBit_and, clr_bit]
  have : decide (i ≤ j) = !decide (j < i) := by rw [← decide_not, decide_eq_decide]; omega
  rw [this]
  cases p.testBit j <;> cases m.testBit j <;> simp
theorem clr_take {p m i : Nat} (hp : p < 256) (hi : i < 8) (h : (p.testBit i && m.testBit i) = true) :
    nextB (sall m (clr p m i)) = true ∧ nextN (sall m (clr p m i)) = (i : Nat) ∧ takeS (sall m (clr p m i)) = sall m (clr p m (i + 1)) := by
  have hlt : clr p m i &&& m < 2 ^ 64 := Nat.lt_of_le_of_lt Nat.and_le_left (by have := clr_lt (m := m) hp i (by omega); omega)
  have hb : (clr p m i &&& m).testBit i = true := by rw [clr_and, h]; simp
  have hc : Lib.ctz 64 (clr p m i &&& m) = i := ctz_unique hlt hb (fun j hj => by rw [clr_and]; simp; omega)
  have h0 : clr p m i &&& m ≠ 0 := by intro e; rw [e] at hb; simp at hb
  have e1 : nextB (sall m (clr p m i)) = true := by
    show (true && decide (clr p m i &&& m ≠ 0)) = true
    simp [h0]
  refine ⟨e1, ?_, ?_⟩
  · unfold nextN
    rw [if_pos e1]
    show ((Lib.ctz 64 (clr p m i &&& m) : Nat) : Int) = _
    rw [hc]
  · unfold takeS
    rw [if_pos e1]
    show sall m (andn (clr p m i) (2 ^ Lib.ctz 64 (clr p m i &&& m))) = _
    rw [hc]
    simp only [clr, h, if_true]
theorem clr_end {p m : Nat} (hp : p < 256) : nextB (sall m (clr p m 8)) = false ∧ nextN (sall m (clr p m 8)) = 0 ∧ takeS (sall m (clr p m 8)) = sall m (clr p m 8) := by
  have h0 : clr p m 8 &&& m = 0 := by
    apply Nat.eq_of_testBit_eq
    intro j
    rw [clr_and, Nat.zero_testBit]
    by_cases hj : 8 ≤ j
    · rw [testBit_ge (b := 8) hp hj]; rfl
    · simp [hj]
  have e1 : nextB (sall m (clr p m 8)) = false := by
    show (true && decide (clr p m 8 &&& m ≠ 0)) = false
    simp [h0]
  refine ⟨e1, ?_, ?_⟩
  · unfold nextN; rw [e1]; rfl
  · unfold takeS; rw [e1]; rfl
theorem clr_skip {p m i : Nat} (h : (p.testBit i && m.testBit i) = false) : clr p m (i + 1) = clr p m i := by
  simp only [clr]
  rw [h]; rfl
theorem int_bit9 (x m : Nat) : ((x : Int) / 2 ^ m % 2 == 1) = x.testBit m := by
  rw [Bool.eq_iff_iff, Nat.testBit_eq_decide_div_mod_eq, beq_iff_eq]
  have e : (x : Int) / 2 ^ m % 2 = ((x / 2 ^ m % 2 : Nat) : Int) := by simp
  rw [e]; simp; omega
theorem drew_own {w w1 w2 : World} {b : Nat} {cs : List Value} {t : TypeId} (h : Own w b cs t w1) (hm : ∃ n, w2 = w1.drewN n) : Own w b cs t w2 := by
  obtain ⟨n, rfl⟩ := hm
  exact h.drewN n
theorem built3 (m : Nat) : (zeroSe.cells.set 25 (.int .u32 (m : Int))).set 22 (.bool true) = (sall m 0).cells := by kernel_rfl
theorem rz0 : rz 0 = [.bool false, .bool false, .bool false, .bool false, .bool false, .bool false, .bool false, .bool false] := rfl
set_option maxHeartbeats 4000000 in
set_option maxRecDepth 100000 in
theorem lineAll_walk (v : Value) (a1 : Int) (w : World) (f : Fits w (.slice (.int .u8)) [v]) (wa1 : (Lit.int .u8 a1).wf = true) (hT : TabAt 0 Lib.deBruijn64tab w) :
    Calls Tryd.prog 6 #[v, .int .u8 a1] w fun e w' => e = .returned (.bool true) ∧ Below w.heap.size w w' := by
  obtain ⟨l, hr, hx, hmax⟩ := bytes_row f
  obtain ⟨m, rfl, hm⟩ := wf_u8 wa1
  obtain ⟨a, cap, rfl⟩ := hr.form
  have HT := Lib.hid hT
  have HR := Lib.hid hr
  have HX := Lib.hid hx
  clear hT hr hx f wa1
  by_cases h30 : l.length ≤ 30
  · have hd : decide (30 < (l.length : Int)) = false := decide_eq_false (by omega)
    have ok1 := Lib.hid (sall_ok (p := 0) hm (by omega))
    have HI := Lib.hid (info_se ok1.out)
    have HO := Lib.hid (Se.one (sall m 0))
    have HB := Lib.hid (built3 m)
    have HZL := Lib.hid zero_ok.len
    have HXL := Lib.hid ok1.out.len
    have hz := zero_val
    generalize hXC : (sall m 0).cells = XC at *
    have HXC := Lib.hid hXC
    clear hXC
    generalize zeroSe.cells = ZC at *
    have hzs : ZC.toArray.size = 26 := by simpa using HZL.out
    have hzn : ¬ ZC.toArray = #[] := fun h => by rw [h] at hzs; simp at hzs
    rw [← HB.out] at HO
    have hm0 : 0 ≤ (m : Int) := by omega
    have hm1 : (m : Int) ≤ 255 := by omega
    have HM := Lib.hid hm
    clear hm
    generalize hmi : (m : Int) = mi at *
    have HMI := Lib.hid hmi
    clear hmi
    go_enter Tryd.func6, Tryd.ntmps6
    go_upto_region 3 with (go_at_call 10; refine (awake_calls _ HT.out).mono ?_; rintro e wa ⟨rfl, ua⟩)
    have BA := Lib.hid ua
    clear ua
    have Z1 := Lib.hid (Own.newL BA.out ZC (26 : Nat))
    have Z2 := Lib.hid (Z1.out.setAll ((ZC.set 25 (.int .u32 mi)).set 22 (.bool true)) (by simp))
    have hst := Z1.out.store (P := Tryd.prog) ((ZC.set 25 (.int .u32 mi)).set 22 (.bool true)) (by simp) HO.out
    go_upto_region 4 with (fail)
    clear hst
    generalize World.setCells _ _ _ _ = w1 at *
    rw [HB.out, ← HXC.out] at Z2
    have R1 : Hid (Own w w1.heap.size (rz 0) 39 (w1.alloc (.cells #[.bool false, .bool false, .bool false, .bool false, .bool false, .bool false, .bool false, .bool false] 39))) := Own.new Z2.out.bel _ _
    have Z3 := Lib.hid (Z2.out.alloc (.cells #[.bool false, .bool false, .bool false, .bool false, .bool false, .bool false, .bool false, .bool false] 39))
    have NE := Lib.hid (Nat.ne_of_lt Z2.out.lt)
    have NB := Lib.hid Z2.out.n
    have NB2 := Lib.hid R1.out.n
    go_upto_region 5 with (fail)
    generalize w1.alloc _ = w2 at *
    generalize w1.heap.size = N2 at *
    generalize wa.heap.size = N at *
    clear Z1 Z2 HO HI HXL HB hz hzs hzn ok1
    go_wp2
    have hN0 := Lib.hid (show orAll (l.take 0) = 0 from rfl)
    go_loopw [7] (fun i wr => ∃ k : Nat, k ≤ l.length ∧ i = .int .i64 k ∧ Own w N (sall m (orAll (l.take k))).cells 26 wr ∧ Own w N2 (rz (orAll (l.take k))) 39 wr) (fun i _ => l.length - (intOf i).toNat)
    case atStart => exact ⟨0, by omega, rfl, Z3.out, R1.out⟩
    case round =>
      clear Z3 R1
      obtain ⟨k, hk, rfl, z4, r4⟩ := hrel
      have Z4 := Lib.hid z4
      have R4 := Lib.hid r4
      clear z4 r4
      by_cases hlt : k < l.length
      · obtain ⟨ad, rfl, hcp⟩ : ∃ ad, a = some ad ∧ ∀ wx, Below w.heap.size w wx → wx.cell? (ad.add k) = some (.int .u8 ((l[k] : Nat) : Int)) := by
          rcases HR.out with ⟨h, h0⟩ | ⟨ad, c', h, _, hc⟩
          · rw [h0] at hlt; simp at hlt
          · injection h with h1 _ _
            refine ⟨ad, h1, fun wx hb => ?_⟩
            have h2 := hc k _ (List.getElem?_eq_getElem hlt)
            rw [hb.cell (World.block_lt_of_cell? w _ h2), h2]; rfl
        have hb := HX.out l[k] (List.getElem_mem hlt)
        have HS := Lib.hid (show orAll (l.take (k + 1)) = orAll (l.take k) ||| 2 ^ (l[k] % 8) by rw [List.take_succ_eq_append_getElem hlt, orAll_snoc])
        obtain ⟨q, hq⟩ : ∃ q, l[k] % 8 = q := ⟨_, rfl⟩
        have hq8 : q < 8 := by omega
        have hqi : ((l[k] : Nat) : Int) % 8 = (q : Int) := by omega
        rw [hq] at HS
        have hy0 : 0 ≤ ((l[k] : Nat) : Int) := by omega
        have hy1 : ((l[k] : Nat) : Int) < 256 := by omega
        have hq0 : 0 ≤ (q : Int) := by omega
        have hq7 : (q : Int) < 8 := by omega
        have CP := Lib.hid hcp
        clear hcp hb hq
        generalize ((l[k] : Nat) : Int) = xi at *
        generalize hP' : orAll (l.take (k + 1)) = p' at *
        have HP' := Lib.hid hP'
        clear hP'
        have HPL := Lib.hid (orAll_lt (l.take k))
        generalize orAll (l.take k) = p at *
        have c8 := CP.out _ Z4.out.bel
        have cq := R4.out.cell (rz_get p hq8)
        have fq := R4.out.fro q
        go_upto_region 9 with (fail)
        have R5 := Lib.hid (R4.out.set q (.bool true))
        rw [rz_set p hq8] at R5
        have Z5 := Lib.hid (Z4.out.setO (Ne.symm NE.out) NB2.out q (.bool true))
        clear c8 cq fq
        generalize World.setCell _ _ _ = w5 at *
        have c8 := CP.out _ Z5.out.bel
        have RC := Lib.hid (raise_calls _ (sall_ok HM.out HPL.out) (q : Nat))
        rw [(raise_sall m p hq8).1, (raise_sall m p hq8).2] at RC
        go_wp2_with (go_at_call 9; refine (RC.out _ _ Z5.out.k).mono ?_; rintro e w6 ⟨rfl, u6⟩; have Z6 := Lib.hid (Z5.out.upd u6); have R6 := Lib.hid (R5.out.updO NE.out NB.out u6); clear u6)
        go_roundw
        case rel => exact ⟨k + 1, by omega, by go_num, by rw [HP'.out, HS.out]; exact Z6.out, by rw [HP'.out, HS.out]; exact R6.out⟩
        case measure => simp [intOf]; omega
      · obtain rfl : k = l.length := by omega
        rw [List.take_of_length_le (Nat.le_refl _)] at Z4 R4
        have HPL := Lib.hid (orAll_lt l)
        clear hN0 hk
        generalize orAll l = p at *
        obtain ⟨wo, rfl⟩ : ∃ wo : World, wo = wr := ⟨_, rfl⟩
        go_wp2
        go_loopw [8] (fun i wr => ∃ k : Nat, k ≤ 8 ∧ i = .int .i64 k ∧ Own w N (sall m (clr p m k)).cells 26 wr ∧ Own w N2 (rz p) 39 wr) (fun i _ => 8 - (intOf i).toNat)
        case atStart => exact ⟨0, by omega, rfl, Z4.out, R4.out⟩
        case round =>
          clear Z4 R4
          obtain ⟨k, hk, rfl, z4, r4⟩ := hrel
          have Z4 := Lib.hid z4
          have R4 := Lib.hid r4
          clear z4 r4
          by_cases h8 : k < 8
          · have TC := Lib.hid (take_calls _ (sall_ok HM.out (clr_lt (m := m) HPL.out k hk)))
            have cr := R4.out.cell (rz_get p h8)
            have B1 := int_bit9 m k
            rw [HMI.out] at B1
            have hk0 : 0 ≤ (k : Int) := by omega
            have hk7 : (k : Int) < 8 := by omega
            have hq0 : 0 ≤ mi / 2 ^ k := Int.ediv_nonneg hm0 (Int.pow_nonneg (by omega))
            by_cases hb : (p.testBit k && m.testBit k) = true
            · have CT := clr_take HPL.out h8 hb
              rw [CT.1, CT.2.1, CT.2.2] at TC
              clear CT
              simp only [Bool.and_eq_true] at hb
              obtain ⟨h1, h2⟩ := hb
              rw [h1] at cr
              rw [h2] at B1
              clear h1 h2
              go_wp2_with (go_at_call 13; refine (TC.out _ _ Z4.out.k (tab_below HT.out Z4.out.bel)).mono ?_; rintro e w6 ⟨rfl, u6⟩; have Z6 := Lib.hid (Z4.out.upd u6); have R6 := Lib.hid (R4.out.updO NE.out NB.out u6); clear u6)
              go_roundw
              case rel => exact ⟨k + 1, by omega, by go_num, Z6.out, R6.out⟩
              case measure => simp [intOf]; omega
            · have hb' : (p.testBit k && m.testBit k) = false := (Bool.not_eq_true _).mp hb
              have CS := Lib.hid (clr_skip hb')
              clear TC hb
              cases h1 : p.testBit k with
              | false =>
                rw [h1] at cr
                clear hb' h1
                go_wp2
                go_roundw
                case rel => exact ⟨k + 1, by omega, by go_num, by rw [CS.out]; exact Z4.out, R4.out⟩
                case measure => simp [intOf]; omega
              | true =>
                rw [h1] at cr hb'
                have h2 : m.testBit k = false := by simpa using hb'
                rw [h2] at B1
                clear hb' h1 h2
                go_wp2
                go_roundw
                case rel => exact ⟨k + 1, by omega, by go_num, by rw [CS.out]; exact Z4.out, R4.out⟩
                case measure => simp [intOf]; omega
          · obtain rfl : k = 8 := by omega
            have TC := Lib.hid (take_calls _ (sall_ok HM.out (clr_lt (m := m) HPL.out 8 hk)))
            have CE := clr_end (m := m) HPL.out
            rw [CE.1, CE.2.1, CE.2.2] at TC
            clear CE
            go_wp2_with (first | (go_at_call 13; refine (TC.out _ _ Z4.out.k (tab_below HT.out Z4.out.bel)).mono ?_; rintro e w6 ⟨rfl, u6⟩; have Z6 := Lib.hid (Z4.out.upd u6); clear u6) | (go_at_call 14; refine (wake_nil _).mono ?_; rintro e w7 ⟨rfl, hm7⟩; have Z7 := Lib.hid (drew_own Z6.out hm7); clear hm7) | (go_at_call 12; refine (next_nil _).mono ?_; rintro e w8 ⟨rfl, hm8⟩; have Z8 := Lib.hid (drew_own Z7.out hm8); clear hm8) | (go_at_call 9; refine (raise_nil _ _).mono ?_; rintro e w9 ⟨rfl, rfl⟩))
            go_ret
            exact ⟨rfl, Z8.out.bel⟩
  · have hd : decide (30 < (l.length : Int)) = true := decide_eq_true (by omega)
    go_enter Tryd.func6, Tryd.ntmps6
    go_wp2_with (first | (with_reducible refine (awake_calls _ HT.out).mono ?_; rintro e wa ⟨rfl, ua⟩; have BA := Lib.hid ua; clear ua) | (go_at_call 10; refine (awake_calls _ (tab_below HT.out BA.out)).mono ?_; rintro e wb ⟨rfl, ub⟩; have BB := Lib.hid (BA.out.trans (ub.mono BA.out.size)); clear ub) | (go_at_call 10; refine (awake_calls _ HT.out).mono ?_; rintro e wa ⟨rfl, ua⟩; have BA := Lib.hid ua; clear ua))
    go_ret
    exact ⟨rfl, BB.out⟩
end Go.Proofs.YtajgiolnajneeaaDoor.Walks
