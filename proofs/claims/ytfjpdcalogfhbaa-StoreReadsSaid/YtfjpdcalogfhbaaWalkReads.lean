/- Walks through the functions of the statement, and the statement over them: each contract says what the call answers and that nothing else changes. -/
import Derived.Test.YtfjpdcalogfhbaaProg
import Derived.Test.YtfjpdcalogfhbaaWalkStore
import Derived.Test.YtfjpdcalogfhbaaWalkStore2
import Derived.Laws.BytesString
import Derived.Test.YtfjpdcalogfhbaaBits
import Derived.Test.YtfjpdcalogfhbaaHeap
import Derived.Test.YtfjpdcalogfhbaaAid
import Derived.Lib.Hide
import Derived.Test.YtfjpdcalogfhbaaArr
import Derived.Test.YtfjpdcalogfhbaaEql
import Derived.WalkKit
import Derived.WalkSpells
import Derived.WalkLawsBesides
import Derived.Deep.QuietTactic
import Derived.BigQuiet
import Derived.Deep.RegionHeld3
import Derived.Deep.DeepCutAuto
import Derived.Deep.CutBlock
import Derived.Lib.SlBytesConst
import Derived.StillTailTactics
import Derived.Laws.MakeOwn
import Derived.Deep.AppendLies
import Derived.Laws.CopyOwn
import Derived.RegionTactic
namespace Go.Proofs.Ytfjpdcalogfhbaa.Walks
set_option linter.unusedVariables false
set_option linter.unusedSimpArgs false
open Go.RowKit Go.Proofs.Ytfjpdcalogfhbaa.Bits Go.Proofs.Ytfjpdcalogfhbaa.Heap Go.Proofs.Ytfjpdcalogfhbaa.Aid Go.Proofs.Ytfjpdcalogfhbaa.Arr Go.Proofs.Ytfjpdcalogfhbaa.Eql

def TwinP (w : World) (l : List Nat) (e : Ending) (w' : World) : Prop := ∃ p' q', e = .returned (.pointer (some ⟨p', 0, none⟩)) ∧ w.heap.size ≤ q' ∧ w.heap.size ≤ p' ∧ St w' p' q' l ∧ Below w.heap.size w w'
set_option maxHeartbeats 1000000 in
theorem twin_calls {p q : Nat} {l : List Nat} {w : World} (h : St w p q l) (hl : 0 < l.length) : Calls Try.prog 16 #[.pointer (some ⟨p, 0, none⟩)] w (TwinP w l) := by
  obtain ⟨cap, hcap, hcm, c⟩ := h.c
  obtain ⟨sp, hq⟩ := h.hq
  have HQ := Lib.hid hq
  have HL := Lib.hid hl
  have HE := Lib.hid h.le
  have HBt := Lib.hid h.bt
  obtain ⟨i, hi, hz, hs, hb⟩ := byte_info
  have HI := Lib.hid hi
  have HZ := Lib.hid hz
  have HS := Lib.hid hs
  have HB := Lib.hid hb
  clear hq hl h hi hz hs hb hcm
  go_enter Try.func16, Try.ntmps16
  go_wp2_with (at_builtin; refine wpList_append_lies _ (by rfl) _ _ _ (by rfl) w.heap.size 5 i _ 1 1 Try.underlying27 HI.out HZ.out HS.out HB.out (by rfl) (by omega) (.slice none 0 0) 0 [] (by rfl) (World.ownsRow_nil _ _ _ _) ⟨q, 0, none⟩ l.length cap (l.map enc8) (by rfl) (by rw [List.length_map, Nat.mul_one]) (news_blk HQ.out) (one_enc8 l) HL.out (by have := HE.out; unfold maxLen; omega) (by have := HE.out; omega) (Nat.le_refl _) _ rfl ?_; intro g cap2 w1 hown hgrow hat hl)
  obtain ⟨g', cap', sp', hv, hbase, hcap', hmx, hblk⟩ := sl_form hown (by have := HL.out; omega)
  have hg : g = g' := by injection hv with h1 _ _; injection h1 with h1; injection h1
  subst hg
  have hc : cap2 = cap' := by injection hv
  subst hc
  rw [List.nil_append] at hblk
  have b2 := Blk.new w1 #[.slice (some ⟨g, 0, none⟩) l.length cap2] 51
  have bel : Below w.heap.size w w1 := below_grown (Below.refl _ _) hgrow (fun k hk => by cases hk)
  go_ret
  exact ⟨w1.heap.size, g, rfl, hbase, hgrow.size, ⟨⟨cap2, by omega, hmx, b2⟩, ⟨sp', hblk.alloc _⟩, by omega, HE.out, HBt.out⟩, bel.alloc hgrow.size _⟩
theorem twin_nil (w : World) : Calls Try.prog 16 #[.pointer none] w fun e w' => e = .returned (.pointer none) ∧ w = w' := by
  go_enter Try.func16, Try.ntmps16
  go_wp2
  go_ret
  exact ⟨rfl, rfl⟩
theorem St.row {w : World} {p q : Nat} {l : List Nat} (h : St w p q l) : ∃ cap, w.cell? ⟨p, 0, none⟩ = some (.slice (some ⟨q, 0, none⟩) l.length cap) ∧ Row w enc8 (.slice (some ⟨q, 0, none⟩) l.length cap) l := by
  obtain ⟨cap, hcap, _, c⟩ := h.c
  obtain ⟨sp, hq⟩ := h.hq
  refine ⟨cap, c, .inr ⟨_, cap, rfl, hcap, fun j x hx => ?_⟩⟩
  have h1 := news_blk hq j (enc8 x) (by rw [List.getElem?_map, hx]; rfl)
  exact h1
theorem strOf_eq {l m : List Nat} (hl : ∀ x ∈ l, x < 256) (hm : ∀ x ∈ m, x < 256) : ((strOf l).toList == (strOf m).toList) = decide (l = m) := by
  rw [Bool.eq_iff_iff]
  simp only [beq_iff_eq, decide_eq_true_eq]
  refine ⟨fun h => strOf_inj hl hm ?_, fun h => by rw [h]⟩
  rw [ByteArray.toList_eq, ByteArray.toList_eq] at h
  have h1 := congrArg List.toArray h
  simp only [Array.toArray_toList] at h1
  cases hs : strOf l
  cases ht : strOf m
  rw [hs, ht] at h1
  simp only at h1
  rw [h1]
set_option maxHeartbeats 1000000 in
theorem same_calls {p q p2 q2 : Nat} {l m : List Nat} {w : World} (h : St w p q l) (h2 : St w p2 q2 m) : Calls Try.prog 17 #[.pointer (some ⟨p, 0, none⟩), .pointer (some ⟨p2, 0, none⟩)] w fun e w' => e = .returned (.bool (decide (l = m))) ∧ Below w.heap.size w w' := by
  obtain ⟨cap, c1, r1⟩ := h.row
  obtain ⟨cap2, c2, r2⟩ := h2.row
  have s1 := fun n => run_string (P := Try.prog) (w.drewN n) 27 9 5 Try.underlying27 Try.underlying5 Try.underlying9 _ _ (r1.drewN n)
  have s2 := fun n => run_string (P := Try.prog) (w.drewN n) 27 9 5 Try.underlying27 Try.underlying5 Try.underlying9 _ _ (r2.drewN n)
  have HE := Lib.hid (strOf_eq h.bt h2.bt)
  generalize strOf l = S1 at *
  generalize strOf m = S2 at *
  clear r1 r2 h h2
  go_enter Try.func17, Try.ntmps17
  go_wp2
  go_quiet (fail)
  go_wp2
  go_ret
  exact ⟨ret_bool HE.out, below_drewN (Below.refl _ _) _⟩
set_option maxHeartbeats 1000000 in
theorem same_nil {p q : Nat} {m : List Nat} {w : World} (h2 : St w p q m) : Calls Try.prog 17 #[.pointer none, .pointer (some ⟨p, 0, none⟩)] w fun e w' => e = .returned (.bool (decide (m.length / 256 = 0))) ∧ w = w' := by
  have F0 := Lib.hid frames_nil
  have F1 := Lib.hid (frames_calls h2)
  have e0 : ((m.length / 256 : Nat) : Int) = 0 ↔ m.length / 256 = 0 := by omega
  have HE : Hid ((((m.length / 256 : Nat) : Int) == 0) = decide (m.length / 256 = 0)) := by
    show _ = _
    rw [Bool.eq_iff_iff]; simp only [beq_iff_eq, decide_eq_true_eq]; exact e0
  clear h2 e0
  generalize ((m.length / 256 : Nat) : Int) = fr at *
  go_enter Try.func17, Try.ntmps17
  go_wp2_with (first | (go_at_call 15; (with_reducible refine (F0.out _).mono ?_); rintro e w2 ⟨rfl, rfl⟩) | (go_at_call 15; (with_reducible refine (F1.out).mono ?_); rintro e w2 ⟨rfl, rfl⟩))
  go_ret
  exact ⟨ret_bool HE.out, rfl⟩
set_option maxHeartbeats 1000000 in
theorem clear_nil (w : World) : Calls Try.prog 11 #[.pointer none, .int .i64 0] w fun e w' => e = .returned (.int .i64 1) ∧ Below w.heap.size w w' := by
  obtain ⟨w1, hm, hsz, hblk, hbel⟩ := make_bytes w 256 (by omega)
  have WB := Lib.hid (write_bad (.pointer none) 0 (by omega) 0 0 (some ⟨w.heap.size, 0, none⟩) 256 256 w1 (frames_nil w1) (by rw [atOk_iff]; omega))
  have hm' : (Instr.makeSlice 27 (.int .i64 256) (.int .i64 256)).run Try.prog w = .ok (.slice (some ⟨w.heap.size, 0, none⟩) 256 256) w1 := hm
  have HB := Lib.hid hbel
  clear hm hsz hblk hbel
  go_enter Try.func11, Try.ntmps11
  go_wp2_with (go_at_call 13; refine WB.out.mono ?_; rintro e w2 ⟨rfl, rfl⟩)
  go_ret
  exact ⟨rfl, HB.out⟩
/-- A copy out of a row that came in, or was made. -/
theorem wpList_copy_row {P : Program} {w : World} {ops : Array Oper} {rest : List Oper} {o : Oper} {a : Act} {Q : Exit → Act → World → Prop} (hgd : o.guard = none) (d s : Operand) (dT sT : TypeId)
    (ho : o.op = .call { callee := .builtin .copy, args := #[d, s], argTypes := #[dT, sT] }) (elem : TypeId) (hu : P.underlying dT = some (.slice elem)) (hsz : (P.info? elem).map (·.size) = some 1)
    (g off dLen dCap : Nat) (l : List Nat) (hd : a.eval d = .slice (some ⟨g, off, none⟩) dLen dCap) (hr : Row w enc8 (a.eval s) l) (hn : l.length ≤ dLen)
    (hc : ∀ j, j < l.length → (w.cell? ⟨g, off + j, none⟩).isSome = true) (hf : ∀ j, j < l.length → w.frozen? ⟨g, off + j, none⟩ = false)
    (h : wpList P ops Q rest (a.put o.dst (goInt l.length)) (w.setCells g off (l.map enc8))) : wpList P ops Q (o :: rest) a w := by
  obtain ⟨sa, scap, hs⟩ := hr.form
  rcases Nat.eq_zero_or_pos l.length with h0 | h0
  · have hl : l = [] := List.eq_nil_of_length_eq_zero h0
    subst hl
    exact wpList_copy_nothing hgd d s dT sT ho elem hu hsz (some ⟨g, off, none⟩) sa dLen dCap 0 scap hd hs (by simp) h
  · rcases hr with ⟨_, h1⟩ | ⟨ad, scap', h1, _, h2⟩
    · rw [h1] at h0; simp at h0
    · exact wpList_copy_any hgd d s dT sT ho elem hu hsz g off dLen dCap ad l.length scap' hd h1 (l.map enc8) (by rw [List.length_map]; exact (Nat.min_eq_left hn).symm) (fun j u hu => by
        rw [List.getElem?_map] at hu
        obtain ⟨x, hx, rfl⟩ := Option.map_eq_some_iff.1 hu
        exact h2 j x hx) (fun j hj => hc j (by simpa using hj)) (fun j hj => hf j (by simpa using hj)) (one_enc8 l) (by rw [List.length_map]; exact h)
theorem Os.setCells {w w1 : World} {p q : Nat} {l : List Nat} (h : Os w p q l w1) {b : Nat} (hp : p ≠ b) (hq : q ≠ b) (hn : w.heap.size ≤ b) (o : Nat) (vs : List Value) : Os w p q l (w1.setCells b o vs) := by
  refine ⟨below_setCells h.bel hn o vs, h.n, ?_⟩
  obtain ⟨cap, h1, h2, h3⟩ := h.k.hp
  obtain ⟨sp, h4⟩ := h.k.hq
  exact ⟨⟨cap, h1, h2, blk_setOther h3 hp o vs⟩, ⟨sp, blk_setOther h4 hq o vs⟩, h.k.ne, h.k.le, h.k.bt⟩
theorem Own.setHead {w w1 : World} {b : Nat} {cs : List Value} {t : TypeId} (h : Own w b cs t w1) (vs : List Value) (hl : vs.length ≤ cs.length) : Own w b (vs ++ cs.drop vs.length) t (w1.setCells b 0 vs) :=
  ⟨below_setCells h.bel h.n 0 vs, h.n, by
    rcases Blk.setCells h.k 0 vs with k | k
    · simpa using k
    · omega⟩
theorem store_two {p : List Nat} (hp : p.length ≤ 256) : splice8 (List.replicate 512 0) (256 * 1 + 0) p = List.replicate 256 0 ++ splice8 (List.replicate 256 0) 0 p := by
  unfold splice8
  rw [List.take_replicate, List.drop_replicate, List.take_zero, List.drop_replicate, List.append_assoc, List.nil_append]
  congr 3
  omega
theorem part_zero {m : List Nat} {off n : Nat} (h : off + n ≤ 256) : ((List.replicate 256 0 ++ m).drop off).take n = List.replicate n 0 := by
  rw [List.drop_append_of_le_length (by rw [List.length_replicate]; omega), List.drop_replicate, List.take_append_of_le_length (by rw [List.length_replicate]; omega), List.take_replicate]
  congr 1
  omega
theorem part_one {m : List Nat} {off n : Nat} : ((List.replicate 256 0 ++ m).drop (256 * 1 + off)).take n = (m.drop off).take n := by
  rw [List.drop_append, List.drop_of_length_le (by rw [List.length_replicate]; omega), List.nil_append, List.length_replicate, show 256 * 1 + off - 256 = off by omega]
theorem ofB_zero : ofB (List.replicate 8 0) = 0 := by decide
theorem rep_lt (n : Nat) : ∀ x ∈ List.replicate n 0, x < 256 := fun x hx => by rw [(List.mem_replicate.1 hx).2]; omega
theorem Own.bytesAt {w w1 : World} {b : Nat} {l : List Nat} {t : TypeId} (h : Own w b (l.map enc8) t w1) {off n : Nat} (hn : off + n ≤ l.length) (cap : Nat) (hc : n ≤ cap) : Row w1 enc8 (.slice (some ⟨b, off, none⟩) n cap) ((l.drop off).take n) := by
  have hl : ((l.drop off).take n).length = n := by rw [List.length_take, List.length_drop]; omega
  refine .inr ⟨_, cap, by rw [hl], by omega, fun j x hx => ?_⟩
  have hk : Blk w1 b (l.map enc8 ++ []) t := by rw [List.append_nil]; exact h.k
  exact bytes_at hk off n j (enc8 x) (by rw [List.getElem?_map, hx]; rfl)
set_option maxRecDepth 100000 in
set_option maxHeartbeats 8000000 in
theorem storeReads_walk (v0 : Value) (a1 a2 a3 : Int) (w : World) (f0 : Fits w (.slice (.int .u8)) [v0]) (w1 : (Lit.int .i64 a1).wf = true) (w2 : (Lit.int .i64 a2).wf = true) (w3 : (Lit.int .i64 a3).wf = true) :
    Calls Try.prog 5 #[v0, .int .i64 a1, .int .i64 a2, .int .i64 a3] w fun e w' => e = .returned (.bool true) ∧ Below w.heap.size w w' := by
  obtain ⟨pl, rp, hp8, hpm⟩ := bytes_row f0
  clear f0 w1 w2 w3
  unfold maxLen at hpm
  have RP := Lib.hid (fun (W : World) (h : Below w.heap.size w W) => rp.below h)
  obtain ⟨av, cv, rfl⟩ := rp.form
  have HP8 := Lib.hid hp8
  have hpm1 : (pl.length : Int) ≤ 9223372036854775807 := by omega
  clear rp hp8 hpm
  by_cases hbig : 256 < pl.length
  · have h1 : decide (256 < (pl.length : Int)) = true := decide_eq_true (by omega)
    go_enter Try.func5, Try.ntmps5
    go_wp2_with fail
    refine (awake_calls _).mono ?_
    rintro e wa ⟨rfl, ua⟩
    have BA := Lib.hid ua
    clear ua
    go_wp2_with fail
    refine (awake_calls _).mono ?_
    rintro e wb ⟨rfl, ub⟩
    have BB := Lib.hid (BA.out.trans (ub.mono BA.out.size))
    clear ub
    go_wp2_with fail
    go_ret
    exact ⟨rfl, BB.out⟩
  · have hp2 : pl.length ≤ 256 := by omega
    have h1 : decide (256 < (pl.length : Int)) = false := decide_eq_false (by omega)
    clear hbig
    have HN := Lib.hid (new_calls 2)
    rw [show 256 * (min (max (2 : Int) 0) 512).toNat = 512 from rfl] at HN
    have LM := Lib.hid (show (splice8 (List.replicate 256 0) 0 pl).length = 256 by rw [splice8_len (by rw [List.length_replicate]; omega), List.length_replicate])
    have MB := Lib.hid (splice8_mem (i := 0) (rep_lt 256) HP8.out)
    have W1 := Lib.hid (fun (W : World) (p q : Nat) (h : St W p q (List.replicate 512 0)) (r : Row W enc8 (.slice av pl.length cv) pl) => write_calls h 1 0 _ pl r HP8.out (by rw [List.length_replicate]; omega) (by omega) (by omega))
    rw [store_two hp2] at W1
    have MC := Lib.hid (show pl.map enc8 ++ ((List.replicate 256 0).map enc8).drop (pl.map enc8).length = (splice8 (List.replicate 256 0) 0 pl).map enc8 by
      unfold splice8
      rw [List.take_zero, List.nil_append, List.map_append, List.map_drop, List.length_map, Nat.zero_add])
    generalize splice8 (List.replicate 256 0) 0 pl = ml at *
    have LA := Lib.hid (show (List.replicate 256 0 ++ ml).length = 512 by rw [List.length_append, List.length_replicate, LM.out])
    have P0 := Lib.hid (fun (off n : Nat) (h : off + n ≤ 256) => part_zero (m := ml) h)
    have P1 := Lib.hid (fun (off n : Nat) => part_one (m := ml) (off := off) (n := n))
    generalize List.replicate 256 0 ++ ml = la at *
    go_enter Try.func5, Try.ntmps5
    go_wp2_with fail
    refine (awake_calls _).mono ?_
    rintro e wa ⟨rfl, ua⟩
    have BA := Lib.hid ua
    clear ua
    go_wp2_with fail
    refine (HN.out _).mono ?_
    rintro e w1 ⟨rfl, k1, b1⟩
    have S1 := Lib.hid (Os.new BA.out k1 b1)
    have NP := Lib.hid (show wa.heap.size + 1 < w1.heap.size from k1.plt)
    clear k1 b1 BA HN
    generalize wa.heap.size + 1 = SP at *
    generalize wa.heap.size = SQ at *
    go_wp2_with fail
    refine (W1.out _ _ _ S1.out.k (RP.out _ S1.out.bel)).mono ?_
    rintro e w2 ⟨rfl, u2⟩
    have S2 := Lib.hid (S1.out.su u2)
    clear u2 S1 W1
    obtain ⟨w3, hmk, hsz, hbk, hbl⟩ := make_bytes w2 256 (by omega)
    have hmk' : (Instr.makeSlice 27 (.int .i64 256) (.int .i64 256)).run Try.prog w2 = .ok (.slice (some ⟨w2.heap.size, 0, none⟩) 256 256) w3 := hmk
    have S3 := Lib.hid (S2.out.step hbl)
    have M3 : Hid (Own w w2.heap.size ((List.replicate 256 0).map enc8) 5 w3) := ⟨S2.out.bel.trans (hbl.mono S2.out.bel.size), S2.out.bel.size, hbk⟩
    have NE : Hid (SP ≠ w2.heap.size ∧ SQ ≠ w2.heap.size) := by
      have e1 := S2.out.k.plt
      have e2 := S2.out.k.qlt
      exact Lib.hid ⟨by omega, by omega⟩
    have RP3 := Lib.hid (RP.out _ S3.out.bel)
    have TH := Lib.hid (M3.out.there (n := pl.length) (by rw [List.length_map, List.length_replicate]; omega))
    clear hmk hsz hbk hbl
    generalize hG : w2.heap.size = MG at *
    clear hG
    go_upto_region 7 with (refine wpList_copy_row (by rfl) (.tmp 30) (.tmp 31) _ _ (by rfl) 5 Try.underlying27 size1 MG 0 256 256 pl (by rfl) (by exact RP3.out) hp2 (fun j hj => (TH.out j hj).1) (fun j hj => (TH.out j hj).2) ?_)
    have M4 := Lib.hid (M3.out.setHead (pl.map enc8) (by rw [List.length_map, List.length_map, List.length_replicate]; exact hp2))
    rw [MC.out] at M4
    have S4 := Lib.hid (S3.out.setCells NE.out.1 NE.out.2 M3.out.n 0 (pl.map enc8))
    generalize World.setCells _ _ _ _ = w4 at *
    clear S2 S3 M3 MC TH RP RP3 HP8 hmk' hpm1 h1
    simp only [Act.put, List.setIfInBounds_toArray, List.set_cons_zero, List.set_cons_succ]
    go_cut [11] (fun s wx => s = .bool (decide ((a1 = 0 ∨ a1 = 1) ∧ 0 ≤ a2 ∧ 0 ≤ a3 ∧ a2 ≤ 256 ∧ a3 ≤ 256 - a2)) ∧ w4 = wx)
    case first =>
      have hfr : (a1 = 0 ∧ (a1 == 0) = true) ∨ (a1 = 1 ∧ (a1 == 0) = false ∧ (a1 == 1) = true) ∨ (a1 ≠ 0 ∧ a1 ≠ 1 ∧ (a1 == 0) = false ∧ (a1 == 1) = false) := by
        by_cases h0 : a1 = 0
        · exact .inl ⟨h0, beq_iff_eq.2 h0⟩
        · by_cases h2 : a1 = 1
          · exact .inr (.inl ⟨h2, beq_false_of_ne h0, beq_iff_eq.2 h2⟩)
          · exact .inr (.inr ⟨h0, h2, beq_false_of_ne h0, beq_false_of_ne h2⟩)
      rcases hfr with ⟨rfl, _⟩ | ⟨rfl, _, _⟩ | ⟨h0, h2, e0, e2⟩
      · by_cases q1 : 0 ≤ a2
        · have dq1 : decide (0 ≤ a2) = true := decide_eq_true q1
          by_cases q2 : 0 ≤ a3
          · have dq2 : decide (0 ≤ a3) = true := decide_eq_true q2
            by_cases q3 : a2 ≤ 256
            · have dq3 : decide (a2 ≤ 256) = true := decide_eq_true q3
              by_cases q4 : a3 ≤ 256 - a2
              · have dq4 : decide (a3 ≤ 256 - a2) = true := decide_eq_true q4
                go_wp2_with fail
                go_meet
                exact ⟨by rw [decide_eq_true ⟨by simp, q1, q2, q3, q4⟩], rfl⟩
              · have dq4 : decide (a3 ≤ 256 - a2) = false := decide_eq_false q4
                go_wp2_with fail
                go_meet
                exact ⟨by rw [decide_eq_false (by omega)], rfl⟩
            · have dq3 : decide (a2 ≤ 256) = false := decide_eq_false q3
              go_wp2_with fail
              go_meet
              exact ⟨by rw [decide_eq_false (by omega)], rfl⟩
          · have dq2 : decide (0 ≤ a3) = false := decide_eq_false q2
            go_wp2_with fail
            go_meet
            exact ⟨by rw [decide_eq_false (by omega)], rfl⟩
        · have dq1 : decide (0 ≤ a2) = false := decide_eq_false q1
          go_wp2_with fail
          go_meet
          exact ⟨by rw [decide_eq_false (by omega)], rfl⟩
      · by_cases q1 : 0 ≤ a2
        · have dq1 : decide (0 ≤ a2) = true := decide_eq_true q1
          by_cases q2 : 0 ≤ a3
          · have dq2 : decide (0 ≤ a3) = true := decide_eq_true q2
            by_cases q3 : a2 ≤ 256
            · have dq3 : decide (a2 ≤ 256) = true := decide_eq_true q3
              by_cases q4 : a3 ≤ 256 - a2
              · have dq4 : decide (a3 ≤ 256 - a2) = true := decide_eq_true q4
                go_wp2_with fail
                go_meet
                exact ⟨by rw [decide_eq_true ⟨by simp, q1, q2, q3, q4⟩], rfl⟩
              · have dq4 : decide (a3 ≤ 256 - a2) = false := decide_eq_false q4
                go_wp2_with fail
                go_meet
                exact ⟨by rw [decide_eq_false (by omega)], rfl⟩
            · have dq3 : decide (a2 ≤ 256) = false := decide_eq_false q3
              go_wp2_with fail
              go_meet
              exact ⟨by rw [decide_eq_false (by omega)], rfl⟩
          · have dq2 : decide (0 ≤ a3) = false := decide_eq_false q2
            go_wp2_with fail
            go_meet
            exact ⟨by rw [decide_eq_false (by omega)], rfl⟩
        · have dq1 : decide (0 ≤ a2) = false := decide_eq_false q1
          go_wp2_with fail
          go_meet
          exact ⟨by rw [decide_eq_false (by omega)], rfl⟩
      · go_wp2_with fail
        go_meet
        exact ⟨by rw [decide_eq_false (by omega)], rfl⟩
    obtain ⟨rfl, rfl⟩ := hcut
    by_cases hok : (a1 = 0 ∨ a1 = 1) ∧ 0 ≤ a2 ∧ 0 ≤ a3 ∧ a2 ≤ 256 ∧ a3 ≤ 256 - a2
    · rw [decide_eq_true hok]
      obtain ⟨off, rfl⟩ := Int.eq_ofNat_of_zero_le hok.2.1
      obtain ⟨n, rfl⟩ := Int.eq_ofNat_of_zero_le hok.2.2.1
      obtain ⟨fr, rfl, hfr⟩ : ∃ fr : Nat, a1 = (fr : Int) ∧ fr < 2 := by
        rcases hok.1 with rfl | rfl
        · exact ⟨0, rfl, by omega⟩
        · exact ⟨1, rfl, by omega⟩
      have hon : off + n ≤ 256 := by omega
      have hfr01 : fr = 0 ∨ fr = 1 := by omega
      have RC := Lib.hid (read_calls S4.out.k fr off n (by rw [LA.out]; omega) (by omega) (by omega))
      go_wp2_with fail
      refine RC.out.mono ?_
      rintro e w5 ⟨v5, rfl, r5, b5⟩
      have S5 := Lib.hid (S4.out.step b5)
      have M5 := Lib.hid (M4.out.step b5)
      have R5 := Lib.hid r5
      clear b5 r5 S4 M4 RC hok
      go_upto_if 65 with (fail)
      go_cut [] (fun wx => Os w SP SQ la wx ∧ Own w MG (ml.map enc8) 5 wx)
      case first =>
        obtain ⟨w6, hmk, hsz, hbk, hbl⟩ := make_bytes w5 n (by omega)
        have S6 := Lib.hid (S5.out.step hbl)
        have M6 := Lib.hid (M5.out.step hbl)
        have R6 := Lib.hid (R5.out.below hbl)
        have N6 : Hid (Own w w5.heap.size ((List.replicate n 0).map enc8) 5 w6) := ⟨S5.out.bel.trans (hbl.mono S5.out.bel.size), S5.out.bel.size, hbk⟩
        have NN : Hid (SP ≠ w5.heap.size ∧ SQ ≠ w5.heap.size ∧ MG ≠ w5.heap.size) := by
          have e1 := S5.out.k.plt
          have e2 := S5.out.k.qlt
          have e3 := M5.out.lt
          exact Lib.hid ⟨by omega, by omega, by omega⟩
        have R7 := Lib.hid (fun vs => R5.out.below (below_setCells hbl (Nat.le_refl w5.heap.size) 0 vs))
        clear hsz hbk hbl S5 M5 R5
        generalize w5.heap.size = NG at *
        rcases hfr01 with rfl | rfl
        · have ZR : Hid (Row w6 enc8 (.slice (some ⟨NG, 0, none⟩) n n) (List.replicate n 0)) := by
            have h := N6.out.bytesAt (off := 0) (n := n) (by rw [List.length_replicate]; omega) n (Nat.le_refl _)
            rw [List.drop_zero, List.take_of_length_le (by rw [List.length_replicate]; omega)] at h
            exact h
          rw [show 256 * 0 + off = off by omega, P0.out off n hon] at R6
          have s1 := run_string (P := Try.prog) w6 27 9 5 Try.underlying27 Try.underlying5 Try.underlying9 _ _ R6.out
          have s2 := run_string (P := Try.prog) w6 27 9 5 Try.underlying27 Try.underlying5 Try.underlying9 _ _ ZR.out
          generalize strOf (List.replicate n 0) = S at *
          go_wp2_with fail
          go_meet
          exact ⟨S6.out, M6.out⟩
        · rw [P1.out off n] at R6
          have lml : ml.length = 256 := LM.out
          have LC := Lib.hid (show ((ml.drop off).take n).length = n by rw [List.length_take, List.length_drop]; omega)
          have TH := Lib.hid (N6.out.there (n := n) (by rw [List.length_map, List.length_replicate]; omega))
          have M7 := Lib.hid (N6.out.setAll (((ml.drop off).take n).map enc8) (by rw [List.length_map, List.length_map, List.length_replicate, LC.out]))
          have S7 := Lib.hid (S6.out.setCells NN.out.1 NN.out.2.1 N6.out.n 0 (((ml.drop off).take n).map enc8))
          have MM7 := Lib.hid (M6.out.setAllO (Ne.symm NN.out.2.2) N6.out.n 0 (((ml.drop off).take n).map enc8))
          have R8 := Lib.hid (R7.out (((ml.drop off).take n).map enc8))
          rw [P1.out off n] at R8
          have W8 : Hid (Row (w6.setCells NG 0 (((ml.drop off).take n).map enc8)) enc8 (.slice (some ⟨NG, 0, none⟩) n n) ((ml.drop off).take n)) := by
            have h := M7.out.bytesAt (off := 0) (n := n) (by rw [LC.out]; omega) n (Nat.le_refl _)
            rw [show (((ml.drop off).take n).drop 0).take n = (ml.drop off).take n by rw [List.drop_zero, List.take_take, Nat.min_self]] at h
            exact h
          have SRC := Lib.hid (fun j u hu => bytes_at (l := ml) (sp := []) (by rw [List.append_nil]; exact M6.out.k) off n j u hu)
          have OC := Lib.hid (one_enc8 ((ml.drop off).take n))
          have LC2 := Lib.hid (show (((ml.drop off).take n).map enc8).length = Nat.min (256 - off) n by rw [List.length_map, LC.out]; exact (Nat.min_eq_right (by omega)).symm)
          have LC3 := Lib.hid (show (((ml.drop off).take n).map enc8).length = n by rw [List.length_map, LC.out])
          have o0 : (0 : Int) ≤ (off : Int) := by omega
          have o256 : (off : Int) ≤ 256 := by omega
          by_cases hoff : off = 256
          · subst hoff
            obtain rfl : n = 0 := by omega
            have hmk0 : (Instr.makeSlice 27 (.int .i64 0) (.int .i64 0)).run Try.prog w5 = .ok (.slice (some ⟨NG, 0, none⟩) 0 0) w6 := hmk
            clear hmk
            rw [show (ml.drop 256).take 0 = [] from List.take_zero] at R6
            have ZR : Hid (Row w6 enc8 (.slice (some ⟨NG, 0, none⟩) 0 0) []) := .inr ⟨_, 0, rfl, Nat.le_refl _, fun i x h => by simp at h⟩
            have s1 := run_string (P := Try.prog) w6 27 9 5 Try.underlying27 Try.underlying5 Try.underlying9 _ _ R6.out
            have s2 := run_string (P := Try.prog) w6 27 9 5 Try.underlying27 Try.underlying5 Try.underlying9 _ _ ZR.out
            generalize strOf [] = S at *
            clear R7 R8 W8 SRC OC LC2 LC3 M7 S7 MM7 TH LC
            go_wp2_with (refine wpList_copy_nothing (by rfl) (.tmp 70) (.tmp 73) _ _ (by rfl) 5 Try.underlying27 size1 (some ⟨NG, 0, none⟩) (some ⟨MG, 0, none⟩) 0 0 0 0 (by rfl) (by rfl) (by rfl) ?_)
            go_meet
            exact ⟨S6.out, M6.out⟩
          · have h1 : ¬ (off = 256) := hoff
            have h2 : ¬ (256 - off = 0) := by omega
            have h3 : ¬ (256 ≤ off) := by omega
            generalize (ml.drop off).take n = X at *
            generalize X.map enc8 = CS at *
            have THc := Lib.hid (fun j (hj : j < CS.length) => (TH.out j (by rw [LC3.out] at hj; exact hj)).1)
            have THf := Lib.hid (fun j (hj : j < CS.length) => (TH.out j (by rw [LC3.out] at hj; exact hj)).2)
            go_upto_region 13 with (refine wpList_copy_any (by rfl) (.tmp 70) (.tmp 73) _ _ (by rfl) 5 Try.underlying27 size1 NG 0 n n ⟨MG, off, none⟩ (256 - off) (256 - off) (by rfl) (by rfl) CS LC2.out SRC.out THc.out THf.out OC.out ?_)
            simp only [Act.put, List.setIfInBounds_toArray, List.set_cons_zero, List.set_cons_succ]
            generalize World.setCells _ _ _ _ = w7 at *
            have s1 := run_string (P := Try.prog) w7 27 9 5 Try.underlying27 Try.underlying5 Try.underlying9 _ _ R8.out
            have s2 := run_string (P := Try.prog) w7 27 9 5 Try.underlying27 Try.underlying5 Try.underlying9 _ _ W8.out
            generalize strOf X = S at *
            go_wp2_with fail
            go_meet
            exact ⟨S7.out, MM7.out⟩
      obtain ⟨o1, o2⟩ := hcut
      have S6 := Lib.hid o1
      have M6 := Lib.hid o2
      clear o1 o2
      generalize ha1 : (fr : Int) = a1 at *
      generalize ha2 : (off : Int) = a2 at *
      clear ha1 ha2 hon hfr01 hfr
      have hfrc : (a1 = 0 ∧ (a1 == 0) = true) ∨ (a1 = 1 ∧ (a1 == 0) = false ∧ (a1 == 1) = true) ∨ (a1 ≠ 0 ∧ a1 ≠ 1 ∧ (a1 == 0) = false ∧ (a1 == 1) = false) := by
        by_cases h0 : a1 = 0
        · exact .inl ⟨h0, beq_iff_eq.2 h0⟩
        · by_cases h2 : a1 = 1
          · exact .inr (.inl ⟨h2, beq_false_of_ne h0, beq_iff_eq.2 h2⟩)
          · exact .inr (.inr ⟨h0, h2, beq_false_of_ne h0, beq_false_of_ne h2⟩)
      go_upto_region 17 with (fail)
      by_cases hin : 0 ≤ a2 ∧ a2 < 32
      · obtain ⟨i, rfl⟩ := Int.eq_ofNat_of_zero_le hin.1
        have i32 : i < 32 := by omega
        have i0 : (0 : Int) ≤ (i : Int) := by omega
        have i1 : (i : Int) < 32 := by omega
        rcases hfrc with ⟨rfl, _⟩ | ⟨rfl, _, _⟩ | ⟨h0, h2, e0, e2⟩
        · have LD := Lib.hid (load_calls S6.out.k 0 i (by rw [LA.out]; omega) i32)
          rw [show 256 * 0 + 8 * i = 8 * i by omega, P0.out (8 * i) 8 (by omega), ofB_zero] at LD
          go_wp2_with fail
          refine LD.out.mono ?_
          rintro e w8 ⟨rfl, b8⟩
          have S8 := Lib.hid (S6.out.step b8)
          clear b8
          go_wp2_with fail
          go_ret
          exact ⟨rfl, S8.out.bel⟩
        · have LD := Lib.hid (load_calls S6.out.k 1 i (by rw [LA.out]; omega) i32)
          rw [P1.out (8 * i) 8] at LD
          have BT : Hid (∀ x ∈ (ml.drop (8 * i)).take 8, x < 256) := fun x hx => MB.out x (List.mem_of_mem_drop (List.mem_of_mem_take hx))
          have lml : ml.length = 256 := LM.out
          have L8 := Lib.hid (show ((ml.drop (8 * i)).take 8).length = 8 by rw [List.length_take, List.length_drop]; omega)
          clear lml
          go_wp2_with fail
          refine LD.out.mono ?_
          rintro e w8 ⟨rfl, b8⟩
          have S8 := Lib.hid (S6.out.step b8)
          have M8 := Lib.hid (M6.out.step b8)
          clear b8
          have RW := Lib.hid (M8.out.bytesAt (off := 8 * i) (n := 8) (by rw [LM.out]; omega) (256 - 8 * i) (by omega))
          have OF := Lib.hid (of_calls _ _ w8 RW.out BT.out (by rw [L8.out]; omega))
          rw [List.take_of_length_le (Nat.le_of_eq L8.out)] at OF
          have z1 : (8 * (i : Int)).toNat = 8 * i := by omega
          have z2 : (8 * (i : Int) + 8).toNat = 8 * i + 8 := by omega
          have z3 : ¬ (256 = 8 * i) := by omega
          have z4 : ¬ (256 - 8 * i = 0) := by omega
          generalize ((ofB ((ml.drop (8 * i)).take 8) : Nat) : Int) = ov at *
          go_wp2_with fail
          refine OF.out.mono ?_
          rintro e w9 ⟨rfl, rfl⟩
          go_wp2_with fail
          go_ret
          exact ⟨rfl, S8.out.bel⟩
        · have LD := Lib.hid (load_none (.pointer (some ⟨SP, 0, none⟩)) 2 (by omega) a1 i i32 wc (by
            have h := frames_calls S6.out.k
            rw [LA.out] at h
            exact h) (by omega))
          go_wp2_with fail
          refine LD.out.mono ?_
          rintro e w8 ⟨rfl, rfl⟩
          go_wp2_with fail
          go_ret
          exact ⟨rfl, S6.out.bel⟩
      · have LD := Lib.hid (load_bad (.pointer (some ⟨SP, 0, none⟩)) a1 a2 (by omega) wc)
        go_wp2_with fail
        refine LD.out.mono ?_
        rintro e w8 ⟨rfl, rfl⟩
        have hor : (a2 < 0) ∨ (0 ≤ a2 ∧ 32 ≤ a2) := by omega
        rcases hfrc with ⟨rfl, _⟩ | ⟨rfl, _, _⟩ | ⟨h0, h2, e0, e2⟩
        all_goals
          rcases hor with q | ⟨q1, q2⟩
          · have d1 : decide (0 ≤ a2) = false := decide_eq_false (by omega)
            go_wp2_with fail
            go_ret
            exact ⟨rfl, S6.out.bel⟩
          · have d1 : decide (0 ≤ a2) = true := decide_eq_true q1
            have d2 : decide (a2 < 32) = false := decide_eq_false (by omega)
            go_wp2_with fail
            go_ret
            exact ⟨rfl, S6.out.bel⟩
    · rw [decide_eq_false hok]
      have RB := Lib.hid (read_bad (.pointer (some ⟨SP, 0, none⟩)) 2 (by omega) a1 a2 a3 w4 (by
        have h := frames_calls S4.out.k
        rw [LA.out] at h
        exact h) (by rw [atOk_iff]; omega))
      have S6 := S4
      have M6 := M4
      clear hok S4 M4
      go_wp2_with fail
      refine RB.out.mono ?_
      rintro e wx ⟨rfl, rfl⟩
      have hfrc : (a1 = 0 ∧ (a1 == 0) = true) ∨ (a1 = 1 ∧ (a1 == 0) = false ∧ (a1 == 1) = true) ∨ (a1 ≠ 0 ∧ a1 ≠ 1 ∧ (a1 == 0) = false ∧ (a1 == 1) = false) := by
        by_cases h0 : a1 = 0
        · exact .inl ⟨h0, beq_iff_eq.2 h0⟩
        · by_cases h2 : a1 = 1
          · exact .inr (.inl ⟨h2, beq_false_of_ne h0, beq_iff_eq.2 h2⟩)
          · exact .inr (.inr ⟨h0, h2, beq_false_of_ne h0, beq_false_of_ne h2⟩)
      go_upto_region 17 with (fail)
      by_cases hin : 0 ≤ a2 ∧ a2 < 32
      · obtain ⟨i, rfl⟩ := Int.eq_ofNat_of_zero_le hin.1
        have i32 : i < 32 := by omega
        have i0 : (0 : Int) ≤ (i : Int) := by omega
        have i1 : (i : Int) < 32 := by omega
        rcases hfrc with ⟨rfl, _⟩ | ⟨rfl, _, _⟩ | ⟨h0, h2, e0, e2⟩
        · have LD := Lib.hid (load_calls S6.out.k 0 i (by rw [LA.out]; omega) i32)
          rw [show 256 * 0 + 8 * i = 8 * i by omega, P0.out (8 * i) 8 (by omega), ofB_zero] at LD
          go_wp2_with fail
          refine LD.out.mono ?_
          rintro e w8 ⟨rfl, b8⟩
          have S8 := Lib.hid (S6.out.step b8)
          clear b8
          go_wp2_with fail
          go_ret
          exact ⟨rfl, S8.out.bel⟩
        · have LD := Lib.hid (load_calls S6.out.k 1 i (by rw [LA.out]; omega) i32)
          rw [P1.out (8 * i) 8] at LD
          have BT : Hid (∀ x ∈ (ml.drop (8 * i)).take 8, x < 256) := fun x hx => MB.out x (List.mem_of_mem_drop (List.mem_of_mem_take hx))
          have lml : ml.length = 256 := LM.out
          have L8 := Lib.hid (show ((ml.drop (8 * i)).take 8).length = 8 by rw [List.length_take, List.length_drop]; omega)
          clear lml
          go_wp2_with fail
          refine LD.out.mono ?_
          rintro e w8 ⟨rfl, b8⟩
          have S8 := Lib.hid (S6.out.step b8)
          have M8 := Lib.hid (M6.out.step b8)
          clear b8
          have RW := Lib.hid (M8.out.bytesAt (off := 8 * i) (n := 8) (by rw [LM.out]; omega) (256 - 8 * i) (by omega))
          have OF := Lib.hid (of_calls _ _ w8 RW.out BT.out (by rw [L8.out]; omega))
          rw [List.take_of_length_le (Nat.le_of_eq L8.out)] at OF
          have z1 : (8 * (i : Int)).toNat = 8 * i := by omega
          have z2 : (8 * (i : Int) + 8).toNat = 8 * i + 8 := by omega
          have z3 : ¬ (256 = 8 * i) := by omega
          have z4 : ¬ (256 - 8 * i = 0) := by omega
          generalize ((ofB ((ml.drop (8 * i)).take 8) : Nat) : Int) = ov at *
          go_wp2_with fail
          refine OF.out.mono ?_
          rintro e w9 ⟨rfl, rfl⟩
          go_wp2_with fail
          go_ret
          exact ⟨rfl, S8.out.bel⟩
        · have LD := Lib.hid (load_none (.pointer (some ⟨SP, 0, none⟩)) 2 (by omega) a1 i i32 w4 (by
            have h := frames_calls S6.out.k
            rw [LA.out] at h
            exact h) (by omega))
          go_wp2_with fail
          refine LD.out.mono ?_
          rintro e w8 ⟨rfl, rfl⟩
          go_wp2_with fail
          go_ret
          exact ⟨rfl, S6.out.bel⟩
      · have LD := Lib.hid (load_bad (.pointer (some ⟨SP, 0, none⟩)) a1 a2 (by omega) w4)
        go_wp2_with fail
        refine LD.out.mono ?_
        rintro e w8 ⟨rfl, rfl⟩
        have hor : (a2 < 0) ∨ (0 ≤ a2 ∧ 32 ≤ a2) := by omega
        rcases hfrc with ⟨rfl, _⟩ | ⟨rfl, _, _⟩ | ⟨h0, h2, e0, e2⟩
        all_goals
          rcases hor with q | ⟨q1, q2⟩
          · have d1 : decide (0 ≤ a2) = false := decide_eq_false (by omega)
            go_wp2_with fail
            go_ret
            exact ⟨rfl, S6.out.bel⟩
          · have d1 : decide (0 ≤ a2) = true := decide_eq_true q1
            have d2 : decide (a2 < 32) = false := decide_eq_false (by omega)
            go_wp2_with fail
            go_ret
            exact ⟨rfl, S6.out.bel⟩
end Go.Proofs.Ytfjpdcalogfhbaa.Walks
