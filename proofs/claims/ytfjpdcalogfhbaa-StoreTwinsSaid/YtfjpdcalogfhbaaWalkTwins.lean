/- Walks through the functions of the statement, and the statement over them: each contract says what the call answers and that nothing else changes. -/
import Derived.Test.YtfjpdcalogfhbaaProg
import Derived.Test.YtfjpdcalogfhbaaWalkStore
import Derived.Test.YtfjpdcalogfhbaaWalkStore2
import Derived.Laws.BytesString
import Derived.Test.YtfjpdcalogfhbaaBits
import Derived.Test.YtfjpdcalogfhbaaHeap
import Derived.Test.YtfjpdcalogfhbaaAid
import Derived.Lib.Hide
import Derived.Test.YtfjpdcalogfhbaaArr
import Derived.Test.YtfjpdcalogfhbaaEql
import Derived.WalkKit
import Derived.WalkSpells
import Derived.WalkLawsBesides
import Derived.Deep.QuietTactic
import Derived.BigQuiet
import Derived.Deep.RegionHeld3
import Derived.Deep.DeepCutAuto
import Derived.Deep.CutBlock
import Derived.Lib.SlBytesConst
import Derived.StillTailTactics
import Derived.Laws.MakeOwn
import Derived.Deep.AppendLies
import Derived.Laws.CopyOwn
import Derived.RegionTactic
namespace Go.Proofs.Ytfjpdcalogfhbaa.Walks
set_option linter.unusedVariables false
set_option linter.unusedSimpArgs false
open Go.RowKit Go.Proofs.Ytfjpdcalogfhbaa.Bits Go.Proofs.Ytfjpdcalogfhbaa.Heap Go.Proofs.Ytfjpdcalogfhbaa.Aid Go.Proofs.Ytfjpdcalogfhbaa.Arr Go.Proofs.Ytfjpdcalogfhbaa.Eql

def TwinP (w : World) (l : List Nat) (e : Ending) (w' : World) : Prop := ∃ p' q', e = .returned (.pointer (some ⟨p', 0, none⟩)) ∧ w.heap.size ≤ q' ∧ w.heap.size ≤ p' ∧ St w' p' q' l ∧ Below w.heap.size w w'
set_option maxHeartbeats 1000000 in
theorem twin_calls {p q : Nat} {l : List Nat} {w : World} (h : St w p q l) (hl : 0 < l.length) : Calls Try.prog 16 #[.pointer (some ⟨p, 0, none⟩)] w (TwinP w l) := by
  obtain ⟨cap, hcap, hcm, c⟩ := h.c
  obtain ⟨sp, hq⟩ := h.hq
  have HQ := Lib.hid hq
  have HL := Lib.hid hl
  have HE := Lib.hid h.le
  have HBt := Lib.hid h.bt
  obtain ⟨i, hi, hz, hs, hb⟩ := byte_info
  have HI := Lib.hid hi
  have HZ := Lib.hid hz
  have HS := Lib.hid hs
  have HB := Lib.hid hb
  clear hq hl h hi hz hs hb hcm
  go_enter Try.func16, Try.ntmps16
  go_wp2_with (at_builtin; refine wpList_append_lies _ (by rfl) _ _ _ (by rfl) w.heap.size 5 i _ 1 1 Try.underlying27 HI.out HZ.out HS.out HB.out (by rfl) (by omega) (.slice none 0 0) 0 [] (by rfl) (World.ownsRow_nil _ _ _ _) ⟨q, 0, none⟩ l.length cap (l.map enc8) (by rfl) (by rw [List.length_map, Nat.mul_one]) (news_blk HQ.out) (one_enc8 l) HL.out (by have := HE.out; unfold maxLen; omega) (by have := HE.out; omega) (Nat.le_refl _) _ rfl ?_; intro g cap2 w1 hown hgrow hat hl)
  obtain ⟨g', cap', sp', hv, hbase, hcap', hmx, hblk⟩ := sl_form hown (by have := HL.out; omega)
  have hg : g = g' := by injection hv with h1 _ _; injection h1 with h1; injection h1
  subst hg
  have hc : cap2 = cap' := by injection hv
  subst hc
  rw [List.nil_append] at hblk
  have b2 := Blk.new w1 #[.slice (some ⟨g, 0, none⟩) l.length cap2] 51
  have bel : Below w.heap.size w w1 := below_grown (Below.refl _ _) hgrow (fun k hk => by cases hk)
  go_ret
  exact ⟨w1.heap.size, g, rfl, hbase, hgrow.size, ⟨⟨cap2, by omega, hmx, b2⟩, ⟨sp', hblk.alloc _⟩, by omega, HE.out, HBt.out⟩, bel.alloc hgrow.size _⟩
theorem twin_nil (w : World) : Calls Try.prog 16 #[.pointer none] w fun e w' => e = .returned (.pointer none) ∧ w = w' := by
  go_enter Try.func16, Try.ntmps16
  go_wp2
  go_ret
  exact ⟨rfl, rfl⟩
theorem St.row {w : World} {p q : Nat} {l : List Nat} (h : St w p q l) : ∃ cap, w.cell? ⟨p, 0, none⟩ = some (.slice (some ⟨q, 0, none⟩) l.length cap) ∧ Row w enc8 (.slice (some ⟨q, 0, none⟩) l.length cap) l := by
  obtain ⟨cap, hcap, _, c⟩ := h.c
  obtain ⟨sp, hq⟩ := h.hq
  refine ⟨cap, c, .inr ⟨_, cap, rfl, hcap, fun j x hx => ?_⟩⟩
  have h1 := news_blk hq j (enc8 x) (by rw [List.getElem?_map, hx]; rfl)
  exact h1
theorem strOf_eq {l m : List Nat} (hl : ∀ x ∈ l, x < 256) (hm : ∀ x ∈ m, x < 256) : ((strOf l).toList == (strOf m).toList) = decide (l = m) := by
  rw [Bool.eq_iff_iff]
  simp only [beq_iff_eq, decide_eq_true_eq]
  refine ⟨fun h => strOf_inj hl hm ?_, fun h => by rw [h]⟩
  rw [ByteArray.toList_eq, ByteArray.toList_eq] at h
  have h1 := congrArg List.toArray h
  simp only [Array.toArray_toList] at h1
  cases hs : strOf l
  cases ht : strOf m
  rw [hs, ht] at h1
  simp only at h1
  rw [h1]
set_option maxHeartbeats 1000000 in
theorem same_calls {p q p2 q2 : Nat} {l m : List Nat} {w : World} (h : St w p q l) (h2 : St w p2 q2 m) : Calls Try.prog 17 #[.pointer (some ⟨p, 0, none⟩), .pointer (some ⟨p2, 0, none⟩)] w fun e w' => e = .returned (.bool (decide (l = m))) ∧ Below w.heap.size w w' := by
  obtain ⟨cap, c1, r1⟩ := h.row
  obtain ⟨cap2, c2, r2⟩ := h2.row
  have s1 := fun n => run_string (P := Try.prog) (w.drewN n) 27 9 5 Try.underlying27 Try.underlying5 Try.underlying9 _ _ (r1.drewN n)
  have s2 := fun n => run_string (P := Try.prog) (w.drewN n) 27 9 5 Try.underlying27 Try.underlying5 Try.underlying9 _ _ (r2.drewN n)
  have HE := Lib.hid (strOf_eq h.bt h2.bt)
  generalize strOf l = S1 at *
  generalize strOf m = S2 at *
  clear r1 r2 h h2
  go_enter Try.func17, Try.ntmps17
  go_wp2
  go_quiet (fail)
  go_wp2
  go_ret
  exact ⟨ret_bool HE.out, below_drewN (Below.refl _ _) _⟩
set_option maxHeartbeats 1000000 in
theorem same_nil {p q : Nat} {m : List Nat} {w : World} (h2 : St w p q m) : Calls Try.prog 17 #[.pointer none, .pointer (some ⟨p, 0, none⟩)] w fun e w' => e = .returned (.bool (decide (m.length / 256 = 0))) ∧ w = w' := by
  have F0 := Lib.hid frames_nil
  have F1 := Lib.hid (frames_calls h2)
  have e0 : ((m.length / 256 : Nat) : Int) = 0 ↔ m.length / 256 = 0 := by omega
  have HE : Hid ((((m.length / 256 : Nat) : Int) == 0) = decide (m.length / 256 = 0)) := by
    show _ = _
    rw [Bool.eq_iff_iff]; simp only [beq_iff_eq, decide_eq_true_eq]; exact e0
  clear h2 e0
  generalize ((m.length / 256 : Nat) : Int) = fr at *
  go_enter Try.func17, Try.ntmps17
  go_wp2_with (first | (go_at_call 15; (with_reducible refine (F0.out _).mono ?_); rintro e w2 ⟨rfl, rfl⟩) | (go_at_call 15; (with_reducible refine (F1.out).mono ?_); rintro e w2 ⟨rfl, rfl⟩))
  go_ret
  exact ⟨ret_bool HE.out, rfl⟩
set_option maxHeartbeats 1000000 in
theorem clear_nil (w : World) : Calls Try.prog 11 #[.pointer none, .int .i64 0] w fun e w' => e = .returned (.int .i64 1) ∧ Below w.heap.size w w' := by
  obtain ⟨w1, hm, hsz, hblk, hbel⟩ := make_bytes w 256 (by omega)
  have WB := Lib.hid (write_bad (.pointer none) 0 (by omega) 0 0 (some ⟨w.heap.size, 0, none⟩) 256 256 w1 (frames_nil w1) (by rw [atOk_iff]; omega))
  have hm' : (Instr.makeSlice 27 (.int .i64 256) (.int .i64 256)).run Try.prog w = .ok (.slice (some ⟨w.heap.size, 0, none⟩) 256 256) w1 := hm
  have HB := Lib.hid hbel
  clear hm hsz hblk hbel
  go_enter Try.func11, Try.ntmps11
  go_wp2_with (go_at_call 13; refine WB.out.mono ?_; rintro e w2 ⟨rfl, rfl⟩)
  go_ret
  exact ⟨rfl, HB.out⟩
theorem zero_drop {p : List Nat} (hp : p.length ≤ 256) : (splice8 (List.replicate 512 0) 0 p).drop 256 = List.replicate 256 0 := by
  unfold splice8
  rw [List.take_zero, List.nil_append, Nat.zero_add, List.drop_append, List.drop_of_length_le hp, List.nil_append, List.drop_replicate, List.drop_replicate]
  congr 1
  omega
theorem all_zero : ∀ q : List Nat, q = List.replicate q.length 0 ↔ q.all (· == 0) = true := by
  intro q
  induction q with
  | nil => simp
  | cons x r ih =>
    rw [List.length_cons, List.replicate_succ, List.cons.injEq, ih, List.all_cons, Bool.and_eq_true, beq_iff_eq]
theorem twins_law {p q : List Nat} (hp : p.length ≤ 256) (hq : q.length ≤ 256) : decide (splice8 (List.replicate 512 0) 0 p = splice8 (splice8 (List.replicate 512 0) 0 p) (256 * 1 + 0) q) = q.all (· == 0) := by
  have hz := zero_drop hp
  have hl : (splice8 (List.replicate 512 0) 0 p).length = 512 := by rw [splice8_len (by rw [List.length_replicate]; omega), List.length_replicate]
  generalize splice8 (List.replicate 512 0) 0 p = l at *
  rw [Bool.eq_iff_iff, decide_eq_true_eq, ← all_zero]
  have e : splice8 l (256 * 1 + 0) q = l.take 256 ++ (q ++ (l.drop 256).drop q.length) := by
    unfold splice8
    rw [List.append_assoc, List.drop_drop]
  rw [e, hz, List.drop_replicate]
  have e2 : l = l.take 256 ++ (List.replicate q.length 0 ++ List.replicate (256 - q.length) 0) := by
    rw [List.replicate_append_replicate, show q.length + (256 - q.length) = 256 by omega, ← hz, List.take_append_drop]
  constructor
  · intro h
    have h1 := e2.symm.trans h
    have h2 := List.append_cancel_left h1
    exact (List.append_cancel_right h2).symm
  · intro h
    exact e2.trans (by rw [← h])
theorem all_take {q : List Nat} {k : Nat} (hk : k < q.length) : (q.take (k + 1)).all (· == 0) = ((q.take k).all (· == 0) && (q[k] == 0)) := by
  rw [List.take_succ_eq_append_getElem hk, List.all_append]
  simp
theorem rep_eq (a b : Nat) : decide (List.replicate (256 * a) 0 = List.replicate (256 * b) 0) = ((a : Int) == (b : Int)) := by
  rw [Bool.eq_iff_iff, decide_eq_true_eq, beq_iff_eq]
  constructor
  · intro h
    have := congrArg List.length h
    rw [List.length_replicate, List.length_replicate] at this
    omega
  · intro h
    rw [show a = b by omega]
set_option maxRecDepth 100000 in
set_option maxHeartbeats 4000000 in
theorem storeTwins_walk (v0 v1 : Value) (a2 a3 : Int) (w : World) (f0 : Fits w (.slice (.int .u8)) [v0]) (f1 : Fits w (.slice (.int .u8)) [v1]) (w2 : (Lit.int .i64 a2).wf = true) (w3 : (Lit.int .i64 a3).wf = true) :
    Calls Try.prog 4 #[v0, v1, .int .i64 a2, .int .i64 a3] w fun e w' => e = .returned (.bool true) ∧ Below w.heap.size w w' := by
  obtain ⟨pl, rp, hp8, hpm⟩ := bytes_row f0
  obtain ⟨ql, rq, hq8, hqm⟩ := bytes_row f1
  clear f0 f1 w2 w3
  unfold maxLen at hpm hqm
  have RP := Lib.hid (fun (W : World) (h : Below w.heap.size w W) => rp.below h)
  have RQ := Lib.hid (fun (W : World) (h : Below w.heap.size w W) => rq.below h)
  obtain ⟨av, cv, rfl⟩ := rp.form
  obtain ⟨bv, dv, rfl⟩ := rq.form
  have RQ0 := Lib.hid rq
  have HP8 := Lib.hid hp8
  have HQ8 := Lib.hid hq8
  have hpm1 : (pl.length : Int) ≤ 9223372036854775807 := by omega
  have hqm1 : (ql.length : Int) ≤ 9223372036854775807 := by omega
  clear rp rq hp8 hq8 hpm hqm
  by_cases hbig : 256 < pl.length ∨ 256 < ql.length
  · have hd : decide (256 < (pl.length : Int)) = true ∨ (decide (256 < (pl.length : Int)) = false ∧ decide (256 < (ql.length : Int)) = true) := by
      by_cases h : 256 < pl.length
      · exact .inl (decide_eq_true (by omega))
      · exact .inr ⟨decide_eq_false (by omega), decide_eq_true (by omega)⟩
    clear hbig
    rcases hd with h1 | ⟨h1, h2⟩
    all_goals
      go_enter Try.func4, Try.ntmps4
      go_wp2_with fail
      refine (awake_calls _).mono ?_
      rintro e wa ⟨rfl, ua⟩
      have BA := Lib.hid ua
      clear ua
      go_wp2_with fail
      refine (awake_calls _).mono ?_
      rintro e wb ⟨rfl, ub⟩
      have BB := Lib.hid (BA.out.trans (ub.mono BA.out.size))
      clear ub
      go_wp2_with fail
      go_ret
      exact ⟨rfl, BB.out⟩
  · have hp2 : pl.length ≤ 256 := by omega
    have hq2 : ql.length ≤ 256 := by omega
    have h1 : decide (256 < (pl.length : Int)) = false := decide_eq_false (by omega)
    have h2 : decide (256 < (ql.length : Int)) = false := decide_eq_false (by omega)
    clear hbig
    have HN := Lib.hid (new_calls 2)
    rw [show 256 * (min (max (2 : Int) 0) 512).toNat = 512 from rfl] at HN
    have LAW := Lib.hid (twins_law hp2 hq2)
    have LL := Lib.hid (show (splice8 (List.replicate 512 0) 0 pl).length = 512 by rw [splice8_len (by rw [List.length_replicate]; omega), List.length_replicate])
    have L2 := Lib.hid (show (splice8 (splice8 (List.replicate 512 0) 0 pl) (256 * 1 + 0) ql).length = 512 by rw [splice8_len (by rw [LL.out]; omega), LL.out])
    have W1 := Lib.hid (fun (W : World) (p q : Nat) (h : St W p q (List.replicate 512 0)) (r : Row W enc8 (.slice av pl.length cv) pl) => write_calls h 0 0 _ pl r HP8.out (by rw [List.length_replicate]; omega) (by omega) (by omega))
    have W2 := Lib.hid (fun (W : World) (p q : Nat) (h : St W p q (splice8 (List.replicate 512 0) 0 pl)) (r : Row W enc8 (.slice bv ql.length dv) ql) => write_calls h 1 0 _ ql r HQ8.out (by rw [LL.out]; omega) (by omega) (by omega))
    rw [show 256 * 0 + 0 = 0 from rfl] at W1
    have AT := Lib.hid (fun (k : Nat) (hk : k < ql.length) => all_take hk)
    generalize splice8 (splice8 (List.replicate 512 0) 0 pl) (256 * 1 + 0) ql = lb at *
    generalize splice8 (List.replicate 512 0) 0 pl = la at *
    go_enter Try.func4, Try.ntmps4
    go_wp2_with fail
    refine (awake_calls _).mono ?_
    rintro e wa ⟨rfl, ua⟩
    have BA := Lib.hid ua
    clear ua
    go_wp2_with fail
    refine (HN.out _).mono ?_
    rintro e w1 ⟨rfl, k1, b1⟩
    have S1 := Lib.hid (Os.new BA.out k1 b1)
    have NP := Lib.hid (show wa.heap.size + 1 < w1.heap.size from k1.plt)
    have NW := Lib.hid (show w.heap.size ≤ wa.heap.size from BA.out.size)
    clear k1 b1 BA
    generalize hsp : wa.heap.size + 1 = SP at *
    generalize hsq : wa.heap.size = SQ at *
    go_wp2_with fail
    refine (W1.out _ _ _ S1.out.k (RP.out _ S1.out.bel)).mono ?_
    rintro e w2 ⟨rfl, u2⟩
    have S2 := Lib.hid (S1.out.su u2)
    clear u2 S1 W1
    go_wp2_with fail
    refine (twin_calls S2.out.k (by rw [LL.out]; omega)).mono ?_
    rintro e w3 ⟨tp, tq, rfl, g1, g2, k3, b3⟩
    have S3 := Lib.hid (S2.out.step b3)
    have T3 : Hid (Os w tp tq la w3) := ⟨S2.out.bel.trans (b3.mono S2.out.bel.size), Nat.le_trans S2.out.bel.size g1, k3⟩
    have NE : Hid (SP ≠ tq ∧ SQ ≠ tq) := by
      have e1 := S2.out.k.plt
      have e2 := S2.out.k.qlt
      exact Lib.hid ⟨by omega, by omega⟩
    clear k3 b3 S2 g1 g2
    go_wp2_with fail
    refine (same_calls S3.out.k T3.out.k).mono ?_
    rintro e w4 ⟨rfl, b4⟩
    rw [decide_eq_true (show la = la from rfl)]
    have S4 := Lib.hid (S3.out.step b4)
    have T4 := Lib.hid (T3.out.step b4)
    clear b4 S3 T3
    go_wp2_with fail
    refine (W2.out _ _ _ T4.out.k (RQ.out _ T4.out.bel)).mono ?_
    rintro e w5 ⟨rfl, u5⟩
    have S5 := Lib.hid (S4.out.other u5 T4.out.n NE.out.1 NE.out.2)
    have T5 := Lib.hid (T4.out.su u5)
    clear u5 S4 T4 W2 NE
    clear hsp hsq NP NW HN
    go_wp2_with fail
    go_loopw [12, 13] (fun t i wr => ∃ k : Nat, k ≤ ql.length ∧ i = .int .i64 k ∧ t = .bool ((ql.take k).all (· == 0)) ∧ w5 = wr) (fun _ i _ => ql.length - (intOf i).toNat)
    case atStart => exact ⟨0, by omega, rfl, rfl, rfl⟩
    case round =>
      obtain ⟨k, hk, rfl, rfl, rfl⟩ := hrel
      have hk0 : 0 ≤ (k : Int) := by omega
      by_cases hlt : k < ql.length
      · have hki : (k : Int) < (ql.length : Int) := by omega
        obtain ⟨ad, rfl, hcp⟩ : ∃ ad, bv = some ad ∧ w5.cell? (ad.add k) = some (.int .u8 ((ql[k] : Nat) : Int)) := by
          rcases RQ.out _ S5.out.bel with ⟨h, h0⟩ | ⟨ad, c', h, _, hc⟩
          · rw [h0] at hlt; simp at hlt
          · injection h with h1 _ _
            exact ⟨ad, h1, hc k _ (List.getElem?_eq_getElem hlt)⟩
        have A1 := Lib.hid (AT.out k hlt)
        have A2 : Hid ((ql[k] == 0) = (((ql[k] : Nat) : Int) == 0)) := by
          show _ = _
          rw [Bool.eq_iff_iff, beq_iff_eq, beq_iff_eq]; omega
        rw [A2.out] at A1
        clear A2
        generalize ((ql[k] : Nat) : Int) = x at *
        cases hal : (ql.take k).all (· == 0) with
        | false =>
          rw [hal] at A1
          clear hal
          go_wp2_with fail
          go_roundw
          case rel => exact ⟨k + 1, by omega, by go_num, by rw [A1.out]; rfl, by trivial⟩
          case measure => simp [intOf]; omega
        | true =>
          rw [hal] at A1
          clear hal
          by_cases hx : x = 0
          · subst hx
            go_wp2_with fail
            go_roundw
            case rel => exact ⟨k + 1, by omega, by go_num, by rw [A1.out]; rfl, by trivial⟩
            case measure => simp [intOf]; omega
          · have hx1 : (x == 0) = false := beq_false_of_ne hx
            have hx2 : decide (x = 0) = false := decide_eq_false hx
            rw [hx1] at A1
            go_wp2_with fail
            go_roundw
            case rel => exact ⟨k + 1, by omega, by go_num, by rw [A1.out]; rfl, by trivial⟩
            case measure => simp [intOf]; omega
      · obtain rfl : k = ql.length := by omega
        rw [List.take_of_length_le (Nat.le_refl _)]
        clear AT hk hlt
        have NA := Lib.hid (fun w => new_calls a2 w)
        have NB := Lib.hid (fun w => new_calls a3 w)
        have N0 := Lib.hid (fun w => new_calls 0 w)
        rw [show 256 * (min (max (0 : Int) 0) 512).toNat = 0 from rfl] at N0
        obtain ⟨ca, hca, hca2⟩ : ∃ c : Nat, (min (max a2 0) 512).toNat = c ∧ (c : Int) = min (max a2 0) 512 := ⟨_, rfl, by omega⟩
        obtain ⟨cb, hcb⟩ : ∃ c : Nat, (min (max a3 0) 512).toNat = c := ⟨_, rfl⟩
        rw [hca] at NA
        rw [hcb] at NB
        have RE := Lib.hid (rep_eq ca cb)
        have LA := Lib.hid LAW.out
        generalize ql.all (· == 0) = nb at *
        clear LAW hcb
        have hca3 : (a2 < 0 ∧ (ca : Int) = 0) ∨ (512 < a2 ∧ (ca : Int) = 512) ∨ (0 ≤ a2 ∧ a2 ≤ 512 ∧ (ca : Int) = a2) := by omega
        have FA := Lib.hid (fun (W : World) (p q : Nat) (h : St W p q (List.replicate (256 * ca) 0)) => frames_calls h)
        have FB := Lib.hid (fun (W : World) (p q : Nat) (h : St W p q (List.replicate (256 * cb) 0)) => frames_calls h)
        rw [show ((List.replicate (256 * ca) 0).length / 256) = ca by rw [List.length_replicate]; omega] at FA
        rw [show ((List.replicate (256 * cb) 0).length / 256) = cb by rw [List.length_replicate]; omega] at FB
        clear hca hca2
        generalize hca4 : (ca : Int) = ia at *
        generalize hcb4 : (cb : Int) = ib at *
        clear hca4 hcb4
        rcases hca3 with ⟨z1, rfl⟩ | ⟨z1, rfl⟩ | ⟨z1, z2, rfl⟩
        · have y1 : decide (a2 < 0) = true := decide_eq_true z1
          go_upto_region 19 with (go_at_call 8; refine (NA.out _).mono ?_; rintro e w6 ⟨rfl, k6, b6⟩; have S6 := Lib.hid (S5.out.step b6); have T6 := Lib.hid (T5.out.step b6); have A6 := Lib.hid (Os.new S5.out.bel k6 b6); clear k6 b6)
          go_wp2_with fail
          refine (NB.out _).mono ?_
          rintro e w7 ⟨rfl, k7, b7⟩
          have S7 := Lib.hid (S6.out.step b7)
          have T7 := Lib.hid (T6.out.step b7)
          have A7 := Lib.hid (A6.out.step b7)
          have B7 := Lib.hid (Os.new S6.out.bel k7 b7)
          clear k7 b7 S6 T6 A6
          generalize w5.heap.size + 1 = AP at *
          generalize w5.heap.size = AQ at *
          generalize w6.heap.size + 1 = BP at *
          generalize w6.heap.size = BQ at *
          go_wp2_with fail
          refine (same_calls S7.out.k T7.out.k).mono ?_
          rintro e w8 ⟨rfl, b8⟩
          rw [LA.out]
          have S8 := Lib.hid (S7.out.step b8)
          have A8 := Lib.hid (A7.out.step b8)
          have B8 := Lib.hid (B7.out.step b8)
          clear b8 S7 T7 A7 B7
          go_wp2_with fail
          refine (FA.out _ _ _ A8.out.k).mono ?_
          rintro e w9 ⟨rfl, rfl⟩
          go_wp2_with fail
          refine (same_calls A8.out.k B8.out.k).mono ?_
          rintro e w9 ⟨rfl, b9⟩
          rw [RE.out]
          have S9 := Lib.hid (S8.out.step b9)
          have A9 := Lib.hid (A8.out.step b9)
          have B9 := Lib.hid (B8.out.step b9)
          clear b9 S8 A8 B8
          go_wp2_with fail
          refine (FA.out _ _ _ A9.out.k).mono ?_
          rintro e wx ⟨rfl, rfl⟩
          go_wp2_with fail
          refine (FB.out _ _ _ B9.out.k).mono ?_
          rintro e wx ⟨rfl, rfl⟩
          go_wp2_with fail
          refine (frames_nil _).mono ?_
          rintro e wx ⟨rfl, rfl⟩
          go_wp2_with fail
          refine (twin_nil _).mono ?_
          rintro e wx ⟨rfl, rfl⟩
          go_wp2_with fail
          refine (N0.out _).mono ?_
          rintro e w10 ⟨rfl, k10, b10⟩
          have S10 := Lib.hid (S9.out.step b10)
          clear b10 S9 A9 B9
          go_wp2_with fail
          refine (same_nil k10).mono ?_
          rintro e wx ⟨rfl, rfl⟩
          clear k10
          go_wp2_with fail
          refine (clear_nil _).mono ?_
          rintro e w11 ⟨rfl, b11⟩
          have S11 := Lib.hid (S10.out.step b11)
          clear b11 S10
          go_wp2_with fail
          refine (same_nil S11.out.k).mono ?_
          rintro e wx ⟨rfl, rfl⟩
          rw [LL.out]
          go_wp2_with fail
          go_ret
          exact ⟨rfl, S11.out.bel⟩
        · have y1 : decide (a2 < 0) = false := decide_eq_false (by omega)
          have y2 : decide (512 < a2) = true := decide_eq_true z1
          go_upto_region 19 with (go_at_call 8; refine (NA.out _).mono ?_; rintro e w6 ⟨rfl, k6, b6⟩; have S6 := Lib.hid (S5.out.step b6); have T6 := Lib.hid (T5.out.step b6); have A6 := Lib.hid (Os.new S5.out.bel k6 b6); clear k6 b6)
          go_wp2_with fail
          refine (NB.out _).mono ?_
          rintro e w7 ⟨rfl, k7, b7⟩
          have S7 := Lib.hid (S6.out.step b7)
          have T7 := Lib.hid (T6.out.step b7)
          have A7 := Lib.hid (A6.out.step b7)
          have B7 := Lib.hid (Os.new S6.out.bel k7 b7)
          clear k7 b7 S6 T6 A6
          generalize w5.heap.size + 1 = AP at *
          generalize w5.heap.size = AQ at *
          generalize w6.heap.size + 1 = BP at *
          generalize w6.heap.size = BQ at *
          go_wp2_with fail
          refine (same_calls S7.out.k T7.out.k).mono ?_
          rintro e w8 ⟨rfl, b8⟩
          rw [LA.out]
          have S8 := Lib.hid (S7.out.step b8)
          have A8 := Lib.hid (A7.out.step b8)
          have B8 := Lib.hid (B7.out.step b8)
          clear b8 S7 T7 A7 B7
          go_wp2_with fail
          refine (FA.out _ _ _ A8.out.k).mono ?_
          rintro e w9 ⟨rfl, rfl⟩
          go_wp2_with fail
          refine (same_calls A8.out.k B8.out.k).mono ?_
          rintro e w9 ⟨rfl, b9⟩
          rw [RE.out]
          have S9 := Lib.hid (S8.out.step b9)
          have A9 := Lib.hid (A8.out.step b9)
          have B9 := Lib.hid (B8.out.step b9)
          clear b9 S8 A8 B8
          go_wp2_with fail
          refine (FA.out _ _ _ A9.out.k).mono ?_
          rintro e wx ⟨rfl, rfl⟩
          go_wp2_with fail
          refine (FB.out _ _ _ B9.out.k).mono ?_
          rintro e wx ⟨rfl, rfl⟩
          go_wp2_with fail
          refine (frames_nil _).mono ?_
          rintro e wx ⟨rfl, rfl⟩
          go_wp2_with fail
          refine (twin_nil _).mono ?_
          rintro e wx ⟨rfl, rfl⟩
          go_wp2_with fail
          refine (N0.out _).mono ?_
          rintro e w10 ⟨rfl, k10, b10⟩
          have S10 := Lib.hid (S9.out.step b10)
          clear b10 S9 A9 B9
          go_wp2_with fail
          refine (same_nil k10).mono ?_
          rintro e wx ⟨rfl, rfl⟩
          clear k10
          go_wp2_with fail
          refine (clear_nil _).mono ?_
          rintro e w11 ⟨rfl, b11⟩
          have S11 := Lib.hid (S10.out.step b11)
          clear b11 S10
          go_wp2_with fail
          refine (same_nil S11.out.k).mono ?_
          rintro e wx ⟨rfl, rfl⟩
          rw [LL.out]
          go_wp2_with fail
          go_ret
          exact ⟨rfl, S11.out.bel⟩
        · have y1 : decide (ia < 0) = false := decide_eq_false (by omega)
          have y2 : decide (512 < ia) = false := decide_eq_false (by omega)
          go_upto_region 19 with (go_at_call 8; refine (NA.out _).mono ?_; rintro e w6 ⟨rfl, k6, b6⟩; have S6 := Lib.hid (S5.out.step b6); have T6 := Lib.hid (T5.out.step b6); have A6 := Lib.hid (Os.new S5.out.bel k6 b6); clear k6 b6)
          go_wp2_with fail
          refine (NB.out _).mono ?_
          rintro e w7 ⟨rfl, k7, b7⟩
          have S7 := Lib.hid (S6.out.step b7)
          have T7 := Lib.hid (T6.out.step b7)
          have A7 := Lib.hid (A6.out.step b7)
          have B7 := Lib.hid (Os.new S6.out.bel k7 b7)
          clear k7 b7 S6 T6 A6
          generalize w5.heap.size + 1 = AP at *
          generalize w5.heap.size = AQ at *
          generalize w6.heap.size + 1 = BP at *
          generalize w6.heap.size = BQ at *
          go_wp2_with fail
          refine (same_calls S7.out.k T7.out.k).mono ?_
          rintro e w8 ⟨rfl, b8⟩
          rw [LA.out]
          have S8 := Lib.hid (S7.out.step b8)
          have A8 := Lib.hid (A7.out.step b8)
          have B8 := Lib.hid (B7.out.step b8)
          clear b8 S7 T7 A7 B7
          go_wp2_with fail
          refine (FA.out _ _ _ A8.out.k).mono ?_
          rintro e w9 ⟨rfl, rfl⟩
          go_wp2_with fail
          refine (same_calls A8.out.k B8.out.k).mono ?_
          rintro e w9 ⟨rfl, b9⟩
          rw [RE.out]
          have S9 := Lib.hid (S8.out.step b9)
          have A9 := Lib.hid (A8.out.step b9)
          have B9 := Lib.hid (B8.out.step b9)
          clear b9 S8 A8 B8
          go_wp2_with fail
          refine (FA.out _ _ _ A9.out.k).mono ?_
          rintro e wx ⟨rfl, rfl⟩
          go_wp2_with fail
          refine (FB.out _ _ _ B9.out.k).mono ?_
          rintro e wx ⟨rfl, rfl⟩
          go_wp2_with fail
          refine (frames_nil _).mono ?_
          rintro e wx ⟨rfl, rfl⟩
          go_wp2_with fail
          refine (twin_nil _).mono ?_
          rintro e wx ⟨rfl, rfl⟩
          go_wp2_with fail
          refine (N0.out _).mono ?_
          rintro e w10 ⟨rfl, k10, b10⟩
          have S10 := Lib.hid (S9.out.step b10)
          clear b10 S9 A9 B9
          go_wp2_with fail
          refine (same_nil k10).mono ?_
          rintro e wx ⟨rfl, rfl⟩
          clear k10
          go_wp2_with fail
          refine (clear_nil _).mono ?_
          rintro e w11 ⟨rfl, b11⟩
          have S11 := Lib.hid (S10.out.step b11)
          clear b11 S10
          go_wp2_with fail
          refine (same_nil S11.out.k).mono ?_
          rintro e wx ⟨rfl, rfl⟩
          rw [LL.out]
          go_wp2_with fail
          go_ret
          exact ⟨rfl, S11.out.bel⟩
end Go.Proofs.Ytfjpdcalogfhbaa.Walks
