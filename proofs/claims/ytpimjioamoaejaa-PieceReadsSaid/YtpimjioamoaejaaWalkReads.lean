/- Walks through the functions of the statement, and the statement over them: each contract says what the call answers and that nothing else changes. -/
import Derived.Test.YtpimjioamoaejaaProg
import Derived.Laws.BytesString
import Derived.Test.YtpimjioamoaejaaBits
import Derived.Test.YtpimjioamoaejaaHeap
import Derived.Test.YtpimjioamoaejaaAid
import Derived.Lib.Hide
import Derived.Test.YtpimjioamoaejaaArr
import Derived.Test.YtpimjioamoaejaaEql
import Derived.Test.YtpimjioamoaejaaWalkSums
import Derived.Test.YtpimjioamoaejaaWalkEye
import Derived.WalkKit
import Derived.WalkSpells
import Derived.WalkLawsBesides
import Derived.Deep.QuietTactic
import Derived.BigQuiet
import Derived.Deep.RegionHeld3
import Derived.Deep.DeepCutAuto
import Derived.Deep.CutBlock
import Derived.Lib.SlBytesConst
import Derived.StillTailTactics
import Derived.Laws.MakeOwn
import Derived.Deep.AppendLies
import Derived.Laws.CopyOwn
import Derived.RegionTactic
namespace Go.Proofs.Ytpimjioamoaejaa.Walks
set_option linter.unusedVariables false
set_option linter.unusedSimpArgs false
open Go.RowKit Go.Proofs.Ytpimjioamoaejaa.Bits Go.Proofs.Ytpimjioamoaejaa.Heap Go.Proofs.Ytpimjioamoaejaa.Aid Go.Proofs.Ytpimjioamoaejaa.Arr Go.Proofs.Ytpimjioamoaejaa.Eql

theorem pow128 {k : Nat} (h : k ≤ 9) : (128 : Nat) ^ k < 2 ^ 64 := Nat.lt_of_le_of_lt (Nat.pow_le_pow_right (by omega) h) (by decide)
theorem num_lt64 {l : List Nat} {k : Nat} (hk : k < l.length) (hs : ¬ stopB k l[k]) : numP (l.take (k + 1)) < 2 ^ 64 := by
  have h9 := (numP_fit hk hs).2
  rcases Nat.lt_or_eq_of_le h9 with h | h
  · have h1 := numP_lt (l.take (k + 1))
    rw [List.length_take, Nat.min_eq_left hk] at h1
    exact Nat.lt_of_lt_of_le h1 (Nat.le_of_lt (pow128 (by omega)))
  · unfold stopB at hs
    have e : numP (l.take (k + 1)) = numP (l.take k) + l[k] % 128 * 128 ^ k := by rw [List.take_succ_eq_append_getElem hk, numP_snoc, List.length_take, Nat.min_eq_left (Nat.le_of_lt hk)]
    have h1 := numP_lt (l.take k)
    rw [List.length_take, Nat.min_eq_left (Nat.le_of_lt hk)] at h1
    have h2 : l[k] % 128 ≤ 1 := by omega
    have h3 := Nat.mul_le_mul_right (128 ^ k) h2
    have h4 : (128 : Nat) ^ k = 2 ^ 63 := by rw [h]
    rw [h4] at h1 h3 e
    omega
theorem rd_add (A b P : Nat) : IntKind.u64.wrap (((A % 2 ^ 64 : Nat) : Int) + IntKind.u64.wrap ((b : Int) % 128 * ((P % 2 ^ 64 : Nat) : Int))) = (((A + b % 128 * P) % 2 ^ 64 : Nat) : Int) := by
  have e1 : (b : Int) % 128 * ((P % 2 ^ 64 : Nat) : Int) = ((b % 128 * (P % 2 ^ 64) : Nat) : Int) := by simp
  have w1 : ∀ n : Nat, IntKind.u64.wrap (n : Int) = ((n % 2 ^ 64 : Nat) : Int) := fun n => wrap_nat (k := .u64) rfl n
  rw [e1, w1]
  have e2 : ((A % 2 ^ 64 : Nat) : Int) + ((b % 128 * (P % 2 ^ 64) % 2 ^ 64 : Nat) : Int) = ((A % 2 ^ 64 + b % 128 * (P % 2 ^ 64) % 2 ^ 64 : Nat) : Int) := by omega
  rw [e2, w1]
  rw [← Nat.add_mod, Nat.add_mod A, Nat.mul_mod_mod]
  try rw [← Nat.add_mod]
theorem rd_mul (k : Nat) : IntKind.u64.wrap (((128 ^ k % 2 ^ 64 : Nat) : Int) * 128) = ((128 ^ (k + 1) % 2 ^ 64 : Nat) : Int) := by
  have w1 : ∀ n : Nat, IntKind.u64.wrap (n : Int) = ((n % 2 ^ 64 : Nat) : Int) := fun n => wrap_nat (k := .u64) rfl n
  have e1 : ((128 ^ k % 2 ^ 64 : Nat) : Int) * 128 = ((128 ^ k % 2 ^ 64 * 128 : Nat) : Int) := by omega
  rw [e1, w1, Nat.mod_mul_mod, ← Nat.pow_succ]
set_option maxHeartbeats 16000000 in
theorem reads_walk (v0 : Value) (most : Int) (w : World) (f0 : Aid.Fits w (.slice (.int .u8)) [v0]) (wm : (Lit.int .u64 most).wf = true) :
    Calls Try.prog 4 #[v0, .int .u64 most] w fun e w' => e = .returned (.bool true) ∧ Below w.heap.size w w' := by
  obtain ⟨l, hr, hl, hm⟩ := bytes_row f0
  obtain ⟨a, cap, rfl⟩ := hr.form
  obtain ⟨mo, rfl, hmo⟩ := wf_u64 wm
  by_cases h50 : l.length ≤ 50
  · have HROW := Lib.hid (fun w1 (hb : Below w.heap.size w w1) => hr.below hb)
    have HL := Lib.hid hl
    clear hr f0 hl hm wm hmo
    generalize hmi : (mo : Int) = moi at *
    have HMI := Lib.hid hmi
    clear hmi
    go_enter Try.func4, Try.ntmps4
    go_upto_region 3 with (go_at_call 8; refine (awake_calls _).mono ?_; rintro e w1 ⟨rfl, hb⟩; have HB := Lib.hid hb; clear hb)
    have J0 := Lib.hid (numJ_zero l)
    go_upto_block 0 with (fail)
    go_cut [5, 6] (fun sv sn wx => w1 = wx ∧ ((numA 0 l = none ∧ sn = .int .i64 (-1) ∧ ∃ x : Nat, x < 2 ^ 64 ∧ sv = .int .u64 (x : Int)) ∨ (∃ V n : Nat, V < 2 ^ 64 ∧ numA 0 l = some (V, n) ∧ sv = .int .u64 (V : Int) ∧ sn = .int .i64 (n : Int))))
    case first =>
      have HR := Lib.hid (HROW.out _ HB.out)
      clear HROW HB HMI
      go_wp2_with fail
      go_loop [5, 6, 7, 8] (fun sv sn st i => ∃ k : Nat, k ≤ l.length ∧ k ≤ 10 ∧ i = .int .i64 (k : Int) ∧ sn = .int .i64 (-1) ∧ sv = .int .u64 ((numP (l.take k) % 2 ^ 64 : Nat) : Int) ∧ st = .int .u64 ((128 ^ k % 2 ^ 64 : Nat) : Int) ∧ numJ l k) (fun _ _ _ i => l.length - (intOf i).toNat)
      case atStart => exact ⟨0, Nat.zero_le _, by omega, rfl, rfl, rfl, rfl, J0.out⟩
      case round =>
        clear J0
        obtain ⟨k, hk, h10, rfl, rfl, rfl, rfl, j1⟩ := hrel
        have J1 := Lib.hid j1
        clear j1
        by_cases hlt : k < l.length
        · by_cases hk10 : k < 10
          · obtain ⟨ad, rfl, hcp⟩ : ∃ ad, a = some ad ∧ w1.cell? (ad.add k) = some (.int .u8 ((l[k] : Nat) : Int)) := by
              rcases HR.out with ⟨h, h0⟩ | ⟨ad, c', h, _, hc⟩
              · rw [h0] at hlt; simp at hlt
              · injection h with h1 _ _
                exact ⟨ad, h1, hc k _ (List.getElem?_eq_getElem hlt)⟩
            have hb := HL.out l[k] (List.getElem_mem hlt)
            have hk0 : 0 ≤ (k : Int) := by omega
            have hk10i : (k : Int) < 10 := by omega
            have TK := Lib.hid (show numP (l.take (k + 1)) = numP (l.take k) + l[k] % 128 * 128 ^ k by rw [List.take_succ_eq_append_getElem hlt, numP_snoc, List.length_take, Nat.min_eq_left (Nat.le_of_lt hlt)])
            have HV := Lib.hid (rd_add (numP (l.take k)) l[k] (128 ^ k))
            rw [← TK.out] at HV
            have HT := Lib.hid (rd_mul k)
            clear TK
            have VL := Lib.hid (Nat.mod_lt (numP (l.take (k + 1))) (Bits.pow_pos 64))
            by_cases hs : stopB k l[k]
            · have RN := Lib.hid (numJ_stop J1.out hlt hs)
              unfold stopB at hs
              generalize l[k] = b at *
              have hb0 : 0 ≤ (b : Int) := by omega
              have hb1 : (b : Int) < 256 := by omega
              have hs3 : ((k : Int) = 9 ∧ 1 < (b : Int)) ∨ (0 < (k : Int) ∧ (b : Int) = 0) := by omega
              clear hs hb
              generalize (b : Int) = bi at *
              generalize numP (l.take (k + 1)) % 2 ^ 64 = nv at *
              generalize ((numP (l.take k) % 2 ^ 64 : Nat) : Int) = vi at *
              generalize ((128 ^ k % 2 ^ 64 : Nat) : Int) = ti at *
              generalize ((128 ^ (k + 1) % 2 ^ 64 : Nat) : Int) = tj at *
              go_upto_region 11 with (fail)
              simp only [HV.out, HT.out]
              rcases hs3 with ⟨h1, h2⟩ | ⟨h1, h2⟩
              · obtain rfl : k = 9 := by omega
                have hcp9 : w1.cell? ⟨ad.block, ad.off + 9, none⟩ = some (.int .u8 bi) := by simpa [Addr.add] using hcp
                clear h1
                go_wp2_with fail
                go_meet
                exact ⟨rfl, .inl ⟨RN.out, rfl, nv, VL.out, rfl⟩⟩
              · have hbz : (bi == 0) = true := beq_iff_eq.2 h2
                have h3 : ¬ 1 < bi := by omega
                clear h2
                by_cases h9 : k = 9
                · subst h9
                  have hcp9 : w1.cell? ⟨ad.block, ad.off + 9, none⟩ = some (.int .u8 bi) := by simpa [Addr.add] using hcp
                  go_wp2_with fail
                  go_meet
                  exact ⟨rfl, .inl ⟨RN.out, rfl, nv, VL.out, rfl⟩⟩
                · have n9 : ((k : Int) == 9) = false := beq_false_of_ne (by omega)
                  go_wp2_with fail
                  go_meet
                  exact ⟨rfl, .inl ⟨RN.out, rfl, nv, VL.out, rfl⟩⟩
            · have hs2 := hs
              unfold stopB at hs2
              have R := Lib.hid (fun hb => numJ_step J1.out hlt hs hb)
              have R2 := Lib.hid (fun hb => numJ_last J1.out hlt hs hb)
              have L64 := Lib.hid (num_lt64 hlt hs)
              clear hs
              have hc : (((k : Int) == 9) = false ∧ (k : Int) ≤ 0) ∨ (((k : Int) == 9) = false ∧ 0 < (k : Int) ∧ (((l[k] : Nat) : Int) == 0) = false) ∨ (((k : Int) == 9) = true ∧ 0 < (k : Int) ∧ (((l[k] : Nat) : Int) == 0) = false ∧ ¬ 1 < ((l[k] : Nat) : Int)) := by
                rcases (by omega : k = 0 ∨ (0 < k ∧ k < 9) ∨ k = 9) with h0 | h0 | h0
                · exact .inl ⟨beq_false_of_ne (by omega), by omega⟩
                · exact .inr (.inl ⟨beq_false_of_ne (by omega), by omega, beq_false_of_ne (by omega)⟩)
                · exact .inr (.inr ⟨beq_iff_eq.2 (by omega), by omega, beq_false_of_ne (by omega), by omega⟩)
              generalize l[k] = b at *
              have hb0 : 0 ≤ (b : Int) := by omega
              have hb1 : (b : Int) < 256 := by omega
              have VM := Lib.hid (Nat.mod_eq_of_lt L64.out)
              generalize hTN : numP (l.take (k + 1)) = nw at *
              have TN := Lib.hid hTN
              clear hTN
              by_cases hb7 : b < 128
              · have hb7i : (b : Int) < 128 := by omega
                have NV := Lib.hid (R2.out hb7)
                clear R R2 hb hb7 hs2
                generalize nw % 2 ^ 64 = nv at *
                generalize (b : Int) = bi at *
                generalize ((numP (l.take k) % 2 ^ 64 : Nat) : Int) = vi at *
                generalize ((128 ^ k % 2 ^ 64 : Nat) : Int) = ti at *
                generalize ((128 ^ (k + 1) % 2 ^ 64 : Nat) : Int) = tj at *
                go_upto_region 11 with (fail)
                simp only [HV.out, HT.out]
                rcases hc with ⟨n9, g0⟩ | ⟨n9, g0, hbz⟩ | ⟨n9, g0, hbz, hb2⟩
                rotate_right
                · obtain rfl : k = 9 := by have := beq_iff_eq.1 n9; omega
                  clear n9 g0
                  have hcp9 : w1.cell? ⟨ad.block, ad.off + 9, none⟩ = some (.int .u8 bi) := by simpa [Addr.add] using hcp
                  go_wp2_with fail
                  go_meet
                  exact ⟨rfl, .inr ⟨nw, 10, L64.out, NV.out, by rw [VM.out], rfl⟩⟩
                all_goals
                  go_wp2_with fail
                  go_meet
                  exact ⟨rfl, .inr ⟨nw, k + 1, L64.out, NV.out, by rw [VM.out], by go_num⟩⟩
              · have hb7i : ¬ (b : Int) < 128 := by omega
                have JV := Lib.hid (R.out hb7)
                clear R R2 hb hb7 hs2
                generalize hnv : nw % 2 ^ 64 = nv at *
                have NVE := Lib.hid hnv
                clear hnv
                generalize (b : Int) = bi at *
                generalize ((numP (l.take k) % 2 ^ 64 : Nat) : Int) = vi at *
                generalize ((128 ^ k % 2 ^ 64 : Nat) : Int) = ti at *
                generalize htj : ((128 ^ (k + 1) % 2 ^ 64 : Nat) : Int) = tj at *
                have TJE := Lib.hid htj
                clear htj
                go_upto_region 11 with (fail)
                simp only [HV.out, HT.out]
                rcases hc with ⟨n9, g0⟩ | ⟨n9, g0, hbz⟩ | ⟨n9, g0, hbz, hb2⟩
                rotate_right
                · exfalso; omega
                all_goals
                  go_wp2_with fail
                  go_round
                  case rel => exact ⟨k + 1, by omega, by omega, by go_num, rfl, by rw [TN.out, NVE.out], by rw [TJE.out], JV.out⟩
                  case measure => simp [intOf]; omega
          · have hk10i : ¬ (k : Int) < 10 := by omega
            have RN := Lib.hid (numJ_ten J1.out (by omega))
            have VL := Lib.hid (Nat.mod_lt (numP (l.take k)) (Bits.pow_pos 64))
            generalize numP (l.take k) % 2 ^ 64 = va at *
            generalize hti : ((128 ^ k % 2 ^ 64 : Nat) : Int) = ti at *
            clear hti J1
            go_wp2_with fail
            go_meet
            exact ⟨rfl, .inl ⟨RN.out, rfl, va, VL.out, rfl⟩⟩
        · have RN := Lib.hid (numJ_end J1.out (by omega))
          have VL := Lib.hid (Nat.mod_lt (numP (l.take k)) (Bits.pow_pos 64))
          have hlt2 : ¬ (k : Int) < (l.length : Int) := by omega
          generalize numP (l.take k) % 2 ^ 64 = va at *
          generalize hti : ((128 ^ k % 2 ^ 64 : Nat) : Int) = ti at *
          clear hti J1
          go_wp2_with fail
          go_meet
          exact ⟨rfl, .inl ⟨RN.out, rfl, va, VL.out, rfl⟩⟩
    case rest =>
      obtain ⟨rfl, hc⟩ := hcut
      clear J0
      have LE := Lib.hid (show l.length ≤ 1000000 by omega)
      have E1 := Lib.hid (fun (ww : World) (hb : Below w.heap.size w ww) => (⟨Blk.new ww #[.slice a l.length cap, .bool false] 54, fun wx k => HROW.out wx (Keep.belowB (hb.alloc hb.size _) k (Nat.le_trans hb.size (by simp)) (fun i hi e => by have := hb.size; omega)), HL.out, LE.out⟩ : Ey (ww.alloc (.cells #[.slice a l.length cap, .bool false] 54)) ww.heap.size (.slice a l.length cap) l false))
      have EW := Lib.hid (E1.out _ HB.out)
      have HB2 := Lib.hid (HB.out.alloc HB.out.size (.cells #[.slice a l.length cap, .bool false] 54))
      have NC := Lib.hid (newEye_calls a l.length cap w1)
      have NU := Lib.hid (num_calls EW.out mo)
      rw [HMI.out] at NU
      have NB : Hid (w.heap.size ≤ w1.heap.size) := HB.out.size
      have NS := Lib.hid (show numS l false mo = match numA 0 l with
        | some (x, n) => if x ≤ mo then (x, l.drop n, false) else (0, l, true)
        | none => (0, l, true) from rfl)
      have DN := Lib.hid (fun n => List.length_drop (i := n) (l := l))
      have HA := Lib.hid (fun (v n : Nat) (h : numA 0 l = some (v, n)) => numA_lt HL.out h)
      clear E1 EW HROW HL LE
      generalize numS l false mo = res at *
      generalize w1.alloc (.cells #[.slice a l.length cap, .bool false] 54) = w2 at *
      generalize w1.heap.size = N at *
      rcases hc with ⟨hn, rfl, x, hx, rfl⟩ | ⟨V, n, hV, hn, rfl, rfl⟩
      · have RS : Hid (res = (0, l, true)) := by show res = _; rw [NS.out, hn]
        clear NS hn hx HA
        generalize (x : Int) = xi at *
        go_wp2_with (first
          | (go_at_call 11; refine NC.out.mono ?_; rintro e w3 ⟨rfl, rfl⟩)
          | (go_at_call 12; refine NU.out.mono ?_; rintro e w4 ⟨v4, rfl, k4, e4⟩; rw [show res = _ from RS.out] at e4 ⊢; have E4 := Lib.hid e4; have K4 := Lib.hid k4; clear e4 k4)
          | (go_at_call 13; refine (bad_calls E4.out).mono ?_; rintro e w5 ⟨rfl, rfl⟩)
          | (go_at_call 14; refine (done_calls E4.out).mono ?_; rintro e w6 ⟨rfl, rfl⟩))
        go_ret
        exact ⟨rfl, Keep.belowB HB2.out K4.out HB2.out.size (fun i hi e => by have := NB.out; omega)⟩
      · obtain ⟨hn1, hn2⟩ := HA.out V n hn
        by_cases hm : V ≤ mo
        · have RS : Hid (res = (V, l.drop n, false)) := by show res = _; rw [NS.out, hn]; exact if_pos hm
          have hmi : (V : Int) ≤ moi := by rw [← HMI.out]; omega
          have hn0 : 0 < (n : Int) := by omega
          have HN1 := Lib.hid hn1
          clear NS hn hV HA hm hn2 hn1
          generalize hVi : (V : Int) = Vi at *
          have HVI := Lib.hid hVi
          clear hVi
          go_wp2_with (first
            | (go_at_call 11; refine NC.out.mono ?_; rintro e w3 ⟨rfl, rfl⟩)
            | (go_at_call 12; refine NU.out.mono ?_; rintro e w4 ⟨v4, rfl, k4, e4⟩; rw [show res = _ from RS.out] at e4 ⊢; have E4 := Lib.hid e4; have K4 := Lib.hid k4; clear e4 k4; dsimp only; rw [HVI.out])
            | (go_at_call 13; refine (bad_calls E4.out).mono ?_; rintro e w5 ⟨rfl, rfl⟩)
            | (go_at_call 14; refine (done_calls E4.out).mono ?_; rintro e w6 ⟨rfl, rfl⟩; rw [DN.out]))
          go_ret
          refine ⟨ret_bool ?_, Keep.belowB HB2.out K4.out HB2.out.size (fun i hi e => by have := NB.out; omega)⟩
          have := HN1.out
          by_cases h : n = l.length
          · subst h; simp
          · rw [beq_false_of_ne (show ¬ l.length - n = 0 by omega), beq_false_of_ne (show ¬ (n : Int) = (l.length : Int) by omega)]; rfl
        · have RS : Hid (res = (0, l, true)) := by show res = _; rw [NS.out, hn]; exact if_neg hm
          have hmi : ¬ (V : Int) ≤ moi := by rw [← HMI.out]; omega
          have hn0 : 0 < (n : Int) := by omega
          clear NS hn hV HA hm hn2 hn1
          generalize (V : Int) = Vi at *
          go_wp2_with (first
            | (go_at_call 11; refine NC.out.mono ?_; rintro e w3 ⟨rfl, rfl⟩)
            | (go_at_call 12; refine NU.out.mono ?_; rintro e w4 ⟨v4, rfl, k4, e4⟩; rw [show res = _ from RS.out] at e4 ⊢; have E4 := Lib.hid e4; have K4 := Lib.hid k4; clear e4 k4)
            | (go_at_call 13; refine (bad_calls E4.out).mono ?_; rintro e w5 ⟨rfl, rfl⟩)
            | (go_at_call 14; refine (done_calls E4.out).mono ?_; rintro e w6 ⟨rfl, rfl⟩))
          go_ret
          exact ⟨rfl, Keep.belowB HB2.out K4.out HB2.out.size (fun i hi e => by have := NB.out; omega)⟩
  · generalize l.length = n at *
    clear hr f0 hl hm
    go_enter Try.func4, Try.ntmps4
    go_wp2_with fail
    refine (awake_calls _).mono ?_
    rintro e w1 ⟨rfl, hb⟩
    have HB := Lib.hid hb
    clear hb
    go_wp2_with fail
    refine (awake_calls _).mono ?_
    rintro e w2 ⟨rfl, hb2⟩
    have HB2 := Lib.hid hb2
    clear hb2
    go_wp2_with fail
    go_ret
    exact ⟨rfl, HB.out.trans (HB2.out.mono HB.out.size)⟩
end Go.Proofs.Ytpimjioamoaejaa.Walks
