/- Walks through the functions of the statement, and the statement over them: each contract says what the call answers and that nothing else changes. -/
import Derived.Test.YtpimjioamoaejaaProg
import Derived.Laws.BytesString
import Derived.Test.YtpimjioamoaejaaBits
import Derived.Test.YtpimjioamoaejaaHeap
import Derived.Test.YtpimjioamoaejaaAid
import Derived.Lib.Hide
import Derived.Test.YtpimjioamoaejaaArr
import Derived.Test.YtpimjioamoaejaaEql
import Derived.Test.YtpimjioamoaejaaWalkSums
import Derived.Test.YtpimjioamoaejaaWalkApp
import Derived.Test.YtpimjioamoaejaaWalkEye
import Derived.Test.YtpimjioamoaejaaWalkPart
import Derived.WalkKit
import Derived.WalkSpells
import Derived.WalkLawsBesides
import Derived.Deep.QuietTactic
import Derived.BigQuiet
import Derived.Deep.RegionHeld3
import Derived.Deep.DeepCutAuto
import Derived.Deep.CutBlock
import Derived.Lib.SlBytesConst
import Derived.StillTailTactics
import Derived.Laws.MakeOwn
import Derived.Deep.AppendLies
import Derived.Laws.CopyOwn
import Derived.Maps.AppendAt
import Derived.Deep.Upon
import Derived.Deep.AppendSrc
import Derived.RegionTactic
namespace Go.Proofs.Ytpimjioamoaejaa.Walks
set_option linter.unusedVariables false
set_option linter.unusedSimpArgs false
open Go.RowKit Go.Proofs.Ytpimjioamoaejaa.Bits Go.Proofs.Ytpimjioamoaejaa.Heap Go.Proofs.Ytpimjioamoaejaa.Aid Go.Proofs.Ytpimjioamoaejaa.Arr Go.Proofs.Ytpimjioamoaejaa.Eql

theorem xor_rc {a b c : Nat} (h : a ^^^ c = b ^^^ c) : a = b := by
  have := congrArg (fun x => x ^^^ c) h
  simpa [Nat.xor_assoc] using this
theorem xor_lc {a b c : Nat} (h : c ^^^ a = c ^^^ b) : a = b := by
  rw [Nat.xor_comm c a, Nat.xor_comm c b] at h
  exact xor_rc h
/-- A sum tells every byte: a step can be taken back. -/
theorem cstep_bit {r : Nat} (h : r < 2 ^ 32) : (cstep r).testBit 31 = decide (r % 2 = 1) := by
  unfold cstep
  rw [Nat.testBit_xor, testBit_ge (show r / 2 < 2 ^ 31 by omega) (Nat.le_refl 31)]
  by_cases h1 : r % 2 = 1
  · rw [if_pos h1, decide_eq_true h1]; decide
  · rw [if_neg h1, decide_eq_false h1]; decide
theorem cstep_inj {r s : Nat} (hr : r < 2 ^ 32) (hs : s < 2 ^ 32) (h : cstep r = cstep s) : r = s := by
  have h1 := cstep_bit hr
  rw [h, cstep_bit hs] at h1
  have h2 : (r % 2 = 1) ↔ (s % 2 = 1) := by
    rw [← decide_eq_decide]; exact h1.symm
  unfold cstep at h
  have h3 : r / 2 = s / 2 := by
    by_cases h4 : r % 2 = 1
    · rw [if_pos h4, if_pos (h2.1 h4)] at h
      exact xor_rc h
    · rw [if_neg h4, if_neg (fun h5 => h4 (h2.2 h5))] at h
      exact xor_rc h
  omega
theorem cstepN_inj (n : Nat) {r s : Nat} (hr : r < 2 ^ 32) (hs : s < 2 ^ 32) (h : cstepN n r = cstepN n s) : r = s := by
  induction n with
  | zero => exact h
  | succ n ih => exact ih (cstep_inj (cstepN_lt n hr) (cstepN_lt n hs) h)
theorem cbyte_inj {r s b : Nat} (hr : r < 2 ^ 32) (hs : s < 2 ^ 32) (hb : b < 256) (h : cbyte r b = cbyte s b) : r = s :=
  xor_rc (cstepN_inj 8 (Nat.xor_lt_two_pow hr (by omega)) (Nat.xor_lt_two_pow hs (by omega)) h)
theorem cbyte_inj2 {r b c : Nat} (hr : r < 2 ^ 32) (hb : b < 256) (hc : c < 256) (h : cbyte r b = cbyte r c) : b = c :=
  xor_lc (cstepN_inj 8 (Nat.xor_lt_two_pow hr (by omega)) (Nat.xor_lt_two_pow hr (by omega)) h)
theorem crcFrom_inj (l : List Nat) (hl : ∀ x ∈ l, x < 256) : ∀ {r s : Nat}, r < 2 ^ 32 → s < 2 ^ 32 → crcFrom r l = crcFrom s l → r = s := by
  induction l with
  | nil => intro r s _ _ h; exact h
  | cons x l ih =>
    intro r s hr hs h
    have hx := hl x (by simp)
    exact cbyte_inj hr hs hx (ih (fun y hy => hl y (by simp [hy])) (cbyte_lt hr hx) (cbyte_lt hs hx) h)
theorem crc_other {A B : List Nat} {x y : Nat} (hA : ∀ z ∈ A, z < 256) (hB : ∀ z ∈ B, z < 256) (hx : x < 256) (hy : y < 256) (h : crc (A ++ x :: B) = crc (A ++ y :: B)) : x = y := by
  have hlt : ∀ z, z < 256 → crcFrom 4294967295 (A ++ z :: B) < 2 ^ 32 := fun z hz => crcFrom_lt _ _ (by omega) (fun u hu => by
    rw [List.mem_append, List.mem_cons] at hu
    rcases hu with h | rfl | h
    · exact hA u h
    · exact hz
    · exact hB u h)
  have h1 := hlt x hx
  have h2 := hlt y hy
  unfold crc at h
  have h3 : crcFrom 4294967295 (A ++ x :: B) = crcFrom 4294967295 (A ++ y :: B) := by omega
  have hs : crcFrom 4294967295 A < 2 ^ 32 := crcFrom_lt A _ (by omega) hA
  unfold crcFrom at h3 hs
  rw [List.foldl_append, List.foldl_append, List.foldl_cons, List.foldl_cons] at h3
  exact cbyte_inj2 hs hx hy (crcFrom_inj B hB (cbyte_lt hs hx) (cbyte_lt hs hy) h3)
theorem ofB_inj : ∀ {l m : List Nat}, l.length = m.length → (∀ x ∈ l, x < 256) → (∀ x ∈ m, x < 256) → ofB l = ofB m → l = m := by
  intro l
  induction l with
  | nil => intro m h _ _ _; exact (List.eq_nil_of_length_eq_zero h.symm).symm
  | cons x l ih =>
    intro m h hx hm e
    cases m with
    | nil => simp at h
    | cons y m =>
      simp only [ofB] at e
      have h1 := hx x (by simp)
      have h2 := hm y (by simp)
      have h3 : x = y := by omega
      have h4 : ofB l = ofB m := by omega
      rw [h3, ih (by simpa using h) (fun z hz => hx z (by simp [hz])) (fun z hz => hm z (by simp [hz])) h4]
theorem partR_err (f : Nat) : ∀ (r : List Nat) (c : Nat), partR f r = .error c → c = 5 ∨ c = 12 := by
  induction f with
  | zero => intro r c h; simp [partR] at h
  | succ f ih =>
    intro r c h
    rw [partR] at h
    split at h
    · cases h
    · split at h
      · injection h with h; omega
      · split at h
        · injection h with h; omega
        · split at h
          · injection h with h; omega
          · split at h
            · cases h
            · rename_i e he
              injection h with h
              subst h
              exact ih _ _ he
theorem partR_some {f : Nat} {r : List Nat} {qs : List (Nat × List Nat)} (h : partR f r = .ok qs) (h0 : 0 < r.length) (hf : r.length ≤ f) : 0 < qs.length := by
  obtain ⟨f, rfl⟩ : ∃ k, f = k + 1 := ⟨f - 1, by omega⟩
  rw [partR, if_neg (by omega)] at h
  split at h
  · cases h
  · split at h
    · cases h
    · split at h
      · cases h
      · split at h
        · injection h with h; rw [← h]; simp
        · cases h
theorem piece_len (k : Nat) (l : List Nat) : (pieceB k l).length = 9 + l.length := by unfold pieceB; rw [List.length_append, leB_length, body_len]; omega
theorem piece_lt {k : Nat} {l : List Nat} (hk : k < 256) (hx : ∀ x ∈ l, x < 256) : ∀ x ∈ pieceB k l, x < 256 := by
  intro x h
  unfold pieceB at h
  rw [List.mem_append] at h
  rcases h with h | h
  · exact leB_lt _ _ _ h
  · exact body_lt hk hx _ h
/-- What a piece's bytes say. -/
theorem piece_head (k : Nat) (l : List Nat) : (pieceB k l).take 4 = leB 4 (crc (bodyB k l)) ∧ (pieceB k l).drop 4 = bodyB k l ∧ ((pieceB k l).drop 5).take 4 = leB 4 l.length ∧ (pieceB k l).drop 9 = l := by
  have h4 : (leB 4 (crc (bodyB k l))).length = 4 := leB_length _ _
  refine ⟨?_, ?_, ?_, ?_⟩
  · unfold pieceB; rw [List.take_append_of_le_length (by omega), List.take_of_length_le (by omega)]
  · unfold pieceB; rw [List.drop_append_of_le_length (by omega), List.drop_of_length_le (by omega), List.nil_append]
  · have : (pieceB k l).drop 5 = leB 4 l.length ++ l := by
      have h5 : (5 : Nat) = (leB 4 (crc (bodyB k l))).length + 1 := by omega
      unfold pieceB
      rw [h5, ← List.drop_drop, List.drop_left]
      rfl
    rw [this, List.take_append_of_le_length (by rw [leB_length]; omega), List.take_of_length_le (by rw [leB_length]; omega)]
  · have : (pieceB k l).drop 5 = leB 4 l.length ++ l := by
      have h5 : (5 : Nat) = (leB 4 (crc (bodyB k l))).length + 1 := by omega
      unfold pieceB
      rw [h5, ← List.drop_drop, List.drop_left]
      rfl
    rw [show (9 : Nat) = 5 + 4 by rfl, ← List.drop_drop, this, List.drop_append_of_le_length (by rw [leB_length]; omega), List.drop_of_length_le (by rw [leB_length]; omega), List.nil_append]
theorem set_mem {l : List Nat} {i v : Nat} (hv : v < 256) (hl : ∀ x ∈ l, x < 256) : ∀ x ∈ l.set i v, x < 256 := by
  intro x hx
  rcases List.mem_or_eq_of_mem_set hx with h | h
  · exact hl x h
  · rw [h]; exact hv
/-- THE LAW. -/
theorem turn_law {k : Nat} {l : List Nat} (hk : k < 256) (hl : ∀ x ∈ l, x < 256) (hn : l.length ≤ 100) {i y : Nat} (hi : i < (pieceB k l).length) (hy : y < 256) (hne : y ≠ (pieceB k l)[i]) :
    ((∃ c, (c = 5 ∨ c = 12) ∧ partR ((pieceB k l).set i y).length ((pieceB k l).set i y) = .error c) ∨ (5 ≤ i ∧ i < 9 ∧ ∃ ps, 1 < ps.length ∧ partR ((pieceB k l).set i y).length ((pieceB k l).set i y) = .ok ps)) := by
  obtain ⟨p1, p2, p3, p4⟩ := piece_head k l
  have hL := piece_len k l
  have hlt := piece_lt hk hl
  have hql := set_mem (i := i) hy hlt
  generalize hq : pieceB k l = q at *
  generalize hq2 : q.set i y = q2 at *
  have hL2 : q2.length = 9 + l.length := by rw [← hq2, List.length_set, hL]
  cases hR : partR q2.length q2 with
  | error c => exact .inl ⟨c, partR_err _ _ _ hR, rfl⟩
  | ok ps =>
    right
    rw [hL2, show 9 + l.length = (8 + l.length) + 1 by omega, partR, if_neg (by omega), if_neg (by omega)] at hR
    split at hR
    · cases hR
    rename_i hN
    split at hR
    · cases hR
    rename_i hS
    have hS := Decidable.not_not.1 hS
    have hd5 : ∀ (h : ¬ (5 ≤ i ∧ i < 9)), (q2.drop 5).take 4 = leB 4 l.length := by
      intro h
      rw [← p3, ← hq2]
      rcases Nat.lt_or_ge i 5 with h5 | h5
      · rw [List.drop_set_of_lt h5]
      · rw [List.drop_set, if_neg (by omega), List.take_set_of_le (by omega)]
    have hNl : ofB (leB 4 l.length) = l.length := by rw [ofB_leB]; exact Nat.mod_eq_of_lt (by omega)
    have hC : ofB (leB 4 (crc (bodyB k l))) = crc (bodyB k l) := by
      rw [ofB_leB]; exact Nat.mod_eq_of_lt (crc_lt _ (body_lt hk hl))
    have hB : (bodyB k l).take (5 + l.length) = bodyB k l := List.take_of_length_le (by rw [body_len]; omega)
    by_cases hi5 : 5 ≤ i ∧ i < 9
    · refine ⟨hi5.1, hi5.2, ?_⟩
      have hne2 : (q2.drop 5).take 4 ≠ leB 4 l.length := by
        intro e
        have h1 : ((q2.drop 5).take 4)[i - 5]? = ((q.drop 5).take 4)[i - 5]? := by rw [e, p3]
        rw [List.getElem?_take, if_pos (by omega), List.getElem?_take, if_pos (by omega), List.getElem?_drop, List.getElem?_drop, show 5 + (i - 5) = i by omega, ← hq2, List.getElem?_set_self hi, List.getElem?_eq_getElem hi] at h1
        exact hne (Option.some.inj h1)
      have hNlt : ofB ((q2.drop 5).take 4) ≠ l.length := by
        intro e
        apply hne2
        refine ofB_inj (by rw [List.length_take, List.length_drop, leB_length]; omega) (fun x hx => hql x (List.mem_of_mem_drop (List.mem_of_mem_take hx))) (leB_lt _ _) ?_
        rw [e, hNl]
      split at hR
      · rename_i qs hqs
        injection hR with hR
        have := partR_some hqs (by rw [List.length_drop]; omega) (by rw [List.length_drop]; omega)
        exact ⟨ps, by rw [← hR, List.length_cons]; omega, rfl⟩
      · cases hR
    · exfalso
      rw [hd5 hi5, hNl] at hS
      rcases Nat.lt_or_ge i 4 with h4 | h4
      · have e1 : (q2.drop 4).take (5 + l.length) = bodyB k l := by rw [← hq2, List.drop_set_of_lt h4, p2, hB]
        rw [e1, ← hC] at hS
        have e2 : q2.take 4 = leB 4 (crc (bodyB k l)) := by
          refine ofB_inj (by rw [List.length_take, leB_length]; omega) (fun x hx => hql x (List.mem_of_mem_take hx)) (leB_lt _ _) hS
        have h1 : (q2.take 4)[i]? = (q.take 4)[i]? := by rw [e2, p1]
        rw [List.getElem?_take, if_pos h4, List.getElem?_take, if_pos h4, ← hq2, List.getElem?_set_self hi, List.getElem?_eq_getElem hi] at h1
        exact hne (Option.some.inj h1)
      · have e1 : q2.take 4 = q.take 4 := by rw [← hq2, List.take_set_of_le h4]
        have e2 : (q2.drop 4).take (5 + l.length) = (bodyB k l).set (i - 4) y := by
          rw [← hq2, List.drop_set, if_neg (by omega), p2, List.take_of_length_le (by rw [List.length_set, body_len]; omega)]
        rw [e1, p1, hC, e2] at hS
        have hi4 : i - 4 < (bodyB k l).length := by rw [body_len]; omega
        have e3 : bodyB k l = (bodyB k l).take (i - 4) ++ (bodyB k l)[i - 4] :: (bodyB k l).drop (i - 4 + 1) := by
          rw [← List.drop_eq_getElem_cons hi4, List.take_append_drop]
        have e4 : (bodyB k l).set (i - 4) y = (bodyB k l).take (i - 4) ++ y :: (bodyB k l).drop (i - 4 + 1) := by
          rw [List.set_eq_take_append_cons_drop, if_pos hi4]
        have hbl := body_lt hk hl
        rw [e4] at hS
        have hS2 : crc ((bodyB k l).take (i - 4) ++ (bodyB k l)[i - 4] :: (bodyB k l).drop (i - 4 + 1)) = crc ((bodyB k l).take (i - 4) ++ y :: (bodyB k l).drop (i - 4 + 1)) := by rw [← e3]; exact hS
        have h5 := crc_other (fun z hz => hbl z (List.mem_of_mem_take hz)) (fun z hz => hbl z (List.mem_of_mem_drop hz)) (hbl _ (List.getElem_mem hi4)) hy hS2
        apply hne
        rw [← h5]
        have h6 : (q.drop 4)[i - 4]? = (bodyB k l)[i - 4]? := by rw [p2]
        rw [List.getElem?_drop, show 4 + (i - 4) = i by omega, List.getElem?_eq_getElem hi, List.getElem?_eq_getElem hi4] at h6
        exact (Option.some.inj h6).symm
set_option maxHeartbeats 4000000 in
theorem turns_walk (kd : Int) (v1 : Value) (at' tn : Int) (w : World) (w0 : (Lit.int .u8 kd).wf = true) (f1 : Aid.Fits w (.slice (.int .u8)) [v1]) (w2 : (Lit.int .u8 at').wf = true) (w3 : (Lit.int .u8 tn).wf = true) :
    Calls Try.prog 5 #[.int .u8 kd, v1, .int .u8 at', .int .u8 tn] w fun e w' => e = .returned (.bool true) ∧ Below w.heap.size w w' := by
  obtain ⟨l, hr, hl, hm⟩ := bytes_row f1
  obtain ⟨a, cap, rfl⟩ := hr.form
  obtain ⟨kd, rfl, hk⟩ := wf_u8 w0
  obtain ⟨i0, rfl, hi0⟩ := wf_u8 w2
  obtain ⟨t, rfl, ht⟩ := wf_u8 w3
  by_cases hok : l.length ≤ 100 ∧ t ≠ 0
  · obtain ⟨h100, ht0⟩ := hok
    have ON := Lib.hid (fun w1 (hb : Below w.heap.size w w1) => one_calls kd hk l _ w1 (fun wx hbx => hr.below (hb.trans (hbx.mono hb.size))) hl (by omega))
    have h100i : (l.length : Int) ≤ 100 := by omega
    have htz : ((t : Int) == 0) = false := beq_false_of_ne (by omega)
    have HL := Lib.hid (piece_len kd l)
    have HLT := Lib.hid (piece_lt hk hl)
    have TL := Lib.hid (fun (i : Nat) (hi : i < (pieceB kd l).length) => turn_law hk hl h100 hi (y := (pieceB kd l)[i] ^^^ t) (Nat.xor_lt_two_pow (n := 8) (piece_lt hk hl _ (List.getElem_mem hi)) ht) (fun e => ht0 (by
      have h := congrArg (fun x => (pieceB kd l)[i] ^^^ x) e
      simpa [← Nat.xor_assoc] using h)))
    have XT := Lib.hid (fun (x : Nat) (hx : x < 256) => bits_xor (k := .u8) rfl (m := x) (n := t) hx ht)
    have XL := Lib.hid (fun (x : Nat) (hx : x < 256) => Nat.xor_lt_two_pow (n := 8) hx ht)
    have H100 := Lib.hid h100
    clear hr f1 hl hm w0 w2 w3 h100 ht0 hk ht
    generalize pieceB kd l = q at *
    obtain ⟨k, hk⟩ : ∃ k, i0 % q.length = k := ⟨_, rfl⟩
    have hkI : Int.tmod (i0 : Int) (q.length : Int) = (k : Int) := by rw [tmod_nat, hk]
    have hkl : k < q.length := by rw [← hk]; exact Nat.mod_lt _ (by have := HL.out; omega)
    go_enter Try.func5, Try.ntmps5
    go_upto_region 4 with (first
      | (go_at_call 8; refine (awake_calls _).mono ?_; rintro e w1 ⟨rfl, hb⟩; have HB := Lib.hid hb; clear hb)
      | (go_at_call 15; refine (ON.out _ HB.out).mono ?_; rintro e w2 ⟨v2, rfl, b2⟩; have B2 := Lib.hid b2; clear b2))
    obtain ⟨g, cap2, sp, rfl, hg, hc2, _, hblk⟩ := sl_form B2.out.r (by omega)
    have hGN : w.heap.size ≤ g := Nat.le_trans HB.out.size hg
    have hB2 := HB.out.trans (B2.out.bel.mono HB.out.size)
    have hqk : q[k]? = some q[k] := List.getElem?_eq_getElem hkl
    have c1 : w2.cell? ⟨g, k, none⟩ = some (.int .u8 ((q[k] : Nat) : Int)) := hblk.cellAt (by rw [List.getElem?_append_left (by rw [List.length_map]; exact hkl), List.getElem?_map, hqk]; rfl)
    have fz := hblk.unfrozen k
    have hblk3 := hblk.set k (.int .u8 ((q[k] ^^^ t : Nat) : Int))
    have e3 : (q.map enc8 ++ sp).set k (.int .u8 ((q[k] ^^^ t : Nat) : Int)) = (q.set k (q[k] ^^^ t)).map enc8 ++ sp := by
      rw [List.set_append_left _ _ (by rw [List.length_map]; exact hkl), List.map_set]; rfl
    rw [e3] at hblk3
    have hB3 := hB2.setCell (p := ⟨g, k, none⟩) hGN (.int .u8 ((q[k] ^^^ t : Nat) : Int))
    have hr3 : Row (w2.setCell ⟨g, k, none⟩ (.int .u8 ((q[k] ^^^ t : Nat) : Int))) enc8 (.slice (some ⟨g, 0, none⟩) q.length cap2) (q.set k (q[k] ^^^ t)) :=
      .inr ⟨⟨g, 0, none⟩, cap2, by rw [List.length_set], by rw [List.length_set]; exact hc2, fun i x hi => news_blk hblk3 i _ (by rw [List.getElem?_map, hi]; rfl)⟩
    have hqlt := HLT.out _ (List.getElem_mem hkl)
    have PC := Lib.hid (part_calls _ _ _ hr3 (set_mem (XL.out _ hqlt) HLT.out) (by rw [List.length_set]; have := HL.out; have := H100.out; omega))
    have HB3 := Lib.hid hB3
    have LW := Lib.hid (TL.out k hkl)
    have XV := XT.out _ hqlt
    have hkl2 : (k : Int) < (q.length : Int) := by omega
    have hk0 : 0 ≤ (k : Int) := by omega
    have hi00 : 0 ≤ (i0 : Int) := by omega
    have hql0 : 0 < (q.length : Int) := by omega
    have hqln : ¬ (q.length : Int) = 0 := by omega
    have hkI2 : (i0 : Int) % (q.length : Int) = (k : Int) := by rw [← hk]; simp
    clear hr3 hblk hblk3 hB2 hB3 B2 HB TL XT XL ON HLT hqk e3 hqlt hk hg
    generalize q.set k (q[k] ^^^ t) = q2 at *
    generalize ((q[k] ^^^ t : Nat) : Int) = yi at *
    generalize ((q[k] : Nat) : Int) = xi at *
    generalize (t : Int) = ti at *
    go_upto_region 6 with (fail)
    generalize w2.setCell ⟨g, k, none⟩ (.int .u8 yi) = w3 at *
    rcases LW.out with ⟨c, hcc, hpe⟩ | ⟨h5, h9, ps, hps, hpo⟩
    · have PE := Lib.hid hpe
      clear hpe LW
      have PC2 : Hid (Calls Try.prog 16 #[.slice (some ⟨g, 0, none⟩) q.length cap2] w3 fun e w' => e = .returned (.tuple #[.slice none 0 0, .int .i64 (c : Int)]) ∧ Below w.heap.size w w') := by
        refine PC.out.mono ?_
        rintro e w4 ⟨hb4, ⟨c2, hc2, rfl⟩ | ⟨v4, zs, hz, _⟩⟩
        · rw [PE.out] at hc2
          injection hc2 with hc2
          exact ⟨by rw [hc2], HB3.out.trans (hb4.mono HB3.out.size)⟩
        · rw [PE.out] at hz; cases hz
      clear PC
      rcases hcc with rfl | rfl
      all_goals
        go_wp2_with (go_at_call 16; refine PC2.out.mono ?_; rintro e w4 ⟨rfl, hb4⟩; have HB4 := Lib.hid hb4; clear hb4)
        go_ret
        exact ⟨rfl, HB4.out⟩
    · have PE := Lib.hid hpo
      have PN := Lib.hid hps
      have h5i : (5 : Int) ≤ (k : Int) := by omega
      have h9i : (k : Int) < 9 := by omega
      clear hpo LW hps
      have PC2 : Hid (Calls Try.prog 16 #[.slice (some ⟨g, 0, none⟩) q.length cap2] w3 fun e w' => (∃ a4 cap4, e = .returned (.tuple #[.slice a4 ps.length cap4, .int .i64 0])) ∧ Below w.heap.size w w') := by
        refine PC.out.mono ?_
        rintro e w4 ⟨hb4, ⟨c2, hc2, rfl⟩ | ⟨v4, zs, hz, rfl, ho, _⟩⟩
        · rw [PE.out] at hc2; cases hc2
        · rw [PE.out] at hz
          injection hz with hz
          obtain ⟨a4, cap4, rfl⟩ := own_form ho
          refine ⟨⟨a4, cap4, by rw [hz, List.length_map]⟩, HB3.out.trans (hb4.mono HB3.out.size)⟩
      have hzl : 1 < (ps.length : Int) := by have h := PN.out; omega
      clear PC
      go_wp2_with (go_at_call 16; refine PC2.out.mono ?_; rintro e w4 ⟨⟨a4, cap4, rfl⟩, hb4⟩; have HB4 := Lib.hid hb4; clear hb4)
      go_ret
      exact ⟨rfl, HB4.out⟩
  · have hcase : ¬ (l.length : Int) ≤ 100 ∨ ((l.length : Int) ≤ 100 ∧ ((t : Int) == 0) = true) := by
      by_cases h : l.length ≤ 100
      · right
        exact ⟨by omega, beq_iff_eq.2 (by
          have : t = 0 := Decidable.byContradiction fun h0 => hok ⟨h, h0⟩
          omega)⟩
      · left; omega
    clear hr f1 hl hm w0 w2 w3 hok ht hi0 hk
    generalize l.length = n at *
    generalize (t : Int) = ti at *
    generalize (i0 : Int) = ii at *
    generalize (kd : Int) = ki at *
    rcases hcase with h1 | ⟨h1, h2⟩
    all_goals
      go_enter Try.func5, Try.ntmps5
      go_wp2_with fail
      refine (awake_calls _).mono ?_
      rintro e w1 ⟨rfl, hb⟩
      have HB := Lib.hid hb
      clear hb
      go_wp2_with fail
      refine (awake_calls _).mono ?_
      rintro e w2 ⟨rfl, hb2⟩
      have HB2 := Lib.hid hb2
      clear hb2
      go_wp2_with fail
      go_ret
      exact ⟨rfl, HB.out.trans (HB2.out.mono HB.out.size)⟩
end Go.Proofs.Ytpimjioamoaejaa.Walks
