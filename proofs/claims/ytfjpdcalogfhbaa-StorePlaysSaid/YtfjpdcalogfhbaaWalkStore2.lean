/- Walks through the functions of the statement, and the statement over them: each contract says what the call answers and that nothing else changes. -/
import Derived.Test.YtfjpdcalogfhbaaProg
import Derived.Test.YtfjpdcalogfhbaaWalkStore
import Derived.Laws.BytesString
import Derived.Test.YtfjpdcalogfhbaaBits
import Derived.Test.YtfjpdcalogfhbaaHeap
import Derived.Test.YtfjpdcalogfhbaaAid
import Derived.Lib.Hide
import Derived.Test.YtfjpdcalogfhbaaArr
import Derived.Test.YtfjpdcalogfhbaaEql
import Derived.WalkKit
import Derived.WalkSpells
import Derived.WalkLawsBesides
import Derived.Deep.QuietTactic
import Derived.BigQuiet
import Derived.Deep.RegionHeld3
import Derived.Deep.DeepCutAuto
import Derived.Deep.CutBlock
import Derived.Lib.SlBytesConst
import Derived.StillTailTactics
import Derived.Laws.MakeOwn
import Derived.Deep.AppendLies
import Derived.Laws.CopyOwn
import Derived.RegionTactic
namespace Go.Proofs.Ytfjpdcalogfhbaa.Walks
set_option linter.unusedVariables false
set_option linter.unusedSimpArgs false
open Go.RowKit Go.Proofs.Ytfjpdcalogfhbaa.Bits Go.Proofs.Ytfjpdcalogfhbaa.Heap Go.Proofs.Ytfjpdcalogfhbaa.Aid Go.Proofs.Ytfjpdcalogfhbaa.Arr Go.Proofs.Ytfjpdcalogfhbaa.Eql

theorem made_bytes (n : Nat) : (madeCells (Value.int .u8 0).cells (n * 1)).toList = (List.replicate n 0).map enc8 := by
  apply List.ext_getElem?
  intro k
  by_cases hk : k < n
  · rw [List.getElem?_map, List.getElem?_replicate, if_pos hk]
    unfold madeCells
    simp [hk, Value.cells, enc8, Nat.mod_one]
  · rw [List.getElem?_eq_none (by unfold madeCells; simp; omega), List.getElem?_eq_none (by simp; omega)]
theorem make_bytes (w : World) (c : Nat) (hc : c ≤ 131072) : ∃ w', (Instr.makeSlice 27 (.int .i64 (c : Int)) (.int .i64 (c : Int))).run Try.prog w = .ok (.slice (some ⟨w.heap.size, 0, none⟩) c c) w' ∧ w'.heap.size = w.heap.size + 1 ∧
    Blk w' w.heap.size ((List.replicate c 0).map enc8) 5 ∧ Below w.heap.size w w' := by
  obtain ⟨i, hi, hz, hs, hb⟩ := byte_info
  have h := run_makeSlice (P := Try.prog) w 27 5 i _ Try.underlying27 hi hz .i64 .i64 (c : Int) (c : Int) (by omega) (by omega) (by rw [hs, Int.toNat_natCast]; omega) (by rw [hb]; omega) (by omega)
  rw [hs] at h
  simp only [Int.toNat_natCast] at h
  refine ⟨_, h, by simp, ?_, (Below.refl _ _).alloc (Nat.le_refl _) _⟩
  have b := Blk.new w (madeCells (Value.int .u8 0).cells (c * 1)) 5
  rw [made_bytes] at b
  exact b
set_option maxHeartbeats 1000000 in
theorem new_calls (n : Int) (w : World) :
    Calls Try.prog 8 #[.int .i64 n] w fun e w' => e = .returned (.pointer (some ⟨w.heap.size + 1, 0, none⟩)) ∧ St w' (w.heap.size + 1) w.heap.size (List.replicate (256 * (min (max n 0) 512).toNat) 0) ∧ Below w.heap.size w w' := by
  have main : ∀ c : Nat, c ≤ 512 → (min (max n 0) 512).toNat = c → Calls Try.prog 8 #[.int .i64 n] w fun e w' => e = .returned (.pointer (some ⟨w.heap.size + 1, 0, none⟩)) ∧ St w' (w.heap.size + 1) w.heap.size (List.replicate (256 * c) 0) ∧ Below w.heap.size w w' := by
    intro c hc hn
    obtain ⟨w1, hm, hs, hb, hbl⟩ := make_bytes w (256 * c) (by omega)
    have fin : Hid (St (w1.alloc (.cells #[.slice (some ⟨w.heap.size, 0, none⟩) (256 * c) (256 * c)] (51 : Nat))) (w.heap.size + 1) w.heap.size (List.replicate (256 * c) 0) ∧ Below w.heap.size w (w1.alloc (.cells #[.slice (some ⟨w.heap.size, 0, none⟩) (256 * c) (256 * c)] (51 : Nat)))) := by
      have h2 := Blk.new w1 #[.slice (some ⟨w.heap.size, 0, none⟩) (256 * c) (256 * c)] 51
      rw [hs] at h2
      refine ⟨⟨⟨256 * c, by simp, by unfold maxLen; omega, by simpa using h2⟩, ⟨[], by rw [List.append_nil]; exact hb.alloc _⟩, by omega, by simp; omega, ?_⟩, hbl.alloc (by omega) _⟩
      intro x hx
      rw [List.mem_replicate] at hx
      omega
    have HS := Lib.hid hs
    clear hb hbl hs
    rcases Int.lt_or_le n 0 with h0 | h0
    · have hc0 : c = 0 := by omega
      subst hc0
      have hm0 : (Instr.makeSlice 27 (.int .i64 0) (.int .i64 0)).run Try.prog w = .ok (.slice (some ⟨w.heap.size, 0, none⟩) 0 0) w1 := hm
      clear hm hn
      go_enter Try.func8, Try.ntmps8
      go_wp2
      go_ret
      exact ⟨by rw [HS.out]; rfl, fin.out⟩
    · rcases Int.lt_or_le 512 n with h1 | h1
      · have hc0 : c = 512 := by omega
        subst hc0
        have hm0 : (Instr.makeSlice 27 (.int .i64 131072) (.int .i64 131072)).run Try.prog w = .ok (.slice (some ⟨w.heap.size, 0, none⟩) 131072 131072) w1 := hm
        clear hm hn
        go_enter Try.func8, Try.ntmps8
        go_wp2
        go_ret
        exact ⟨by rw [HS.out]; rfl, fin.out⟩
      · obtain ⟨k, rfl⟩ := Int.eq_ofNat_of_zero_le h0
        have hc0 : k = c := by omega
        subst hc0
        rw [show ((256 * k : Nat) : Int) = 256 * (k : Int) by omega] at hm
        clear hn
        go_enter Try.func8, Try.ntmps8
        go_wp2
        go_ret
        exact ⟨by rw [HS.out]; rfl, fin.out⟩
  exact main _ (by omega) rfl
def strOf (l : List Nat) : ByteArray := ⟨(l.map UInt8.ofNat).toArray⟩
theorem strOf_inj {l m : List Nat} (hl : ∀ x ∈ l, x < 256) (hm : ∀ x ∈ m, x < 256) (h : strOf l = strOf m) : l = m := by
  have h1 : l.map UInt8.ofNat = m.map UInt8.ofNat := by
    have := congrArg (fun b : ByteArray => b.data.toList) h
    simpa [strOf] using this
  have h2 : ∀ l : List Nat, (∀ x ∈ l, x < 256) → (l.map UInt8.ofNat).map UInt8.toNat = l := by
    intro l
    induction l with
    | nil => intro _; rfl
    | cons x r ih =>
      intro h
      rw [List.map_cons, List.map_cons, ih (fun y hy => h y (by simp [hy]))]
      congr 1
      have := h x (by simp)
      simp
      omega
  rw [← h2 l hl, ← h2 m hm, h1]
/-- 'string(b)'. -/
theorem run_string {P : Program} (w : World) (src dst e : TypeId) (hs : P.underlying src = some (.slice e)) (he : P.underlying e = some (.int .u8)) (hd : P.underlying dst = some .string) (v : Value) (l : List Nat) (hr : Row w enc8 v l) :
    (convert src dst v).run P w = .ok (.string (strOf l)) w := by
  rcases hr with ⟨rfl, rfl⟩ | ⟨a, cap, rfl, hc, hcell⟩
  · rw [run_convert_bytes_string w src dst e _ 0 0 hs he hd]
    simp [Conv.bytesToString]
    rfl
  · rw [run_convert_bytes_string w src dst e _ _ cap hs he hd]
    have hl := run_loadCells_list (P := P) w a ((l.map fun x : Nat => (x : Int)).map (Value.int .u8)) (fun j v hj => by
      rw [List.map_map, List.getElem?_map] at hj
      obtain ⟨x, hx, rfl⟩ := Option.map_eq_some_iff.1 hj
      exact hcell j x hx)
    rw [List.length_map, List.length_map] at hl
    rw [run_bytesToString w a l.length cap _ hl]
    congr 2
    have : ∀ (l : List Nat) (s : ByteArray), (l.map fun x : Nat => (x : Int)).foldl (fun r n => r.push (UInt8.ofNat n.toNat)) s = ⟨s.data ++ (l.map UInt8.ofNat).toArray⟩ := by
      intro l
      induction l with
      | nil => intro s; simp
      | cons x r ih =>
        intro s
        rw [List.map_cons, List.foldl_cons, ih]
        simp [ByteArray.push]
    rw [this]
    simp [strOf, ByteArray.empty, ByteArray.emptyWithCapacity]
    try rfl
theorem row_one {w : World} {v : Value} {x : Nat} (h : Row w enc8 v [x]) : ∃ a cap, v = .slice (some a) 1 cap ∧ w.cell? a = some (.int .u8 (x : Int)) := by
  rcases h with ⟨_, h⟩ | ⟨a, cap, rfl, _, hc⟩
  · cases h
  · have := hc 0 x rfl
    rw [show a.add 0 = a by unfold Addr.add; simp] at this
    exact ⟨a, cap, rfl, this⟩
set_option maxHeartbeats 1000000 in
theorem awake_calls (w : World) : Calls Try.prog 7 #[] w fun e w' => e = .returned (.bool true) ∧ Below w.heap.size w w' := by
  have HN := Lib.hid (new_calls 2 w)
  rw [show 256 * (min (max (2 : Int) 0) 512).toNat = 512 from rfl] at HN
  have HS := Lib.hid (fun W p q (h : St W p q (List.replicate 512 0)) => save_calls h 0 1 5 (by rw [List.length_replicate]; omega) (by omega))
  have hlen : (splice8 (List.replicate 512 0) (256 * 0 + 8 * 1) (leB 8 5)).length = 512 := by rw [splice8_len (by rw [List.length_replicate, leB_length]; omega), List.length_replicate]
  have HR := Lib.hid (fun W p q (h : St W p q (splice8 (List.replicate 512 0) (256 * 0 + 8 * 1) (leB 8 5))) => read_calls h 0 8 1 (by rw [hlen]; omega) (by omega) (by omega))
  rw [show ((splice8 (List.replicate 512 0) (256 * 0 + 8 * 1) (leB 8 5)).drop (256 * 0 + 8)).take 1 = [5] by decide +kernel] at HR
  have HF := Lib.hid (fun W p q (h : St W p q (splice8 (List.replicate 512 0) (256 * 0 + 8 * 1) (leB 8 5))) => frames_calls h)
  rw [hlen] at HF
  clear hlen
  generalize splice8 (List.replicate 512 0) (256 * 0 + 8 * 1) (leB 8 5) = L1 at *
  generalize List.replicate 512 0 = L0 at *
  go_enter Try.func7, Try.ntmps7
  go_upto_region 4 with (first | (go_at_call 8; refine HN.out.mono ?_; rintro e w1 ⟨rfl, k1, b1⟩; have B1 := Lib.hid (Os.new (Below.refl _ _) k1 b1); clear k1 b1) | (go_at_call 9; refine (HS.out _ _ _ B1.out.k).mono ?_; rintro e w2 ⟨rfl, u2⟩; have B2 := Lib.hid (B1.out.su u2); clear u2) | (go_at_call 14; refine (HR.out _ _ _ B2.out.k).mono ?_; rintro e w3 ⟨v, rfl, r3, u3⟩; have B3 := Lib.hid (B2.out.step u3); obtain ⟨a3, cap3, rfl, c3⟩ := row_one r3; clear u3 r3))
  go_wp2_with (go_at_call 15; refine (HF.out _ _ _ B3.out.k).mono ?_; rintro e w4 ⟨rfl, rfl⟩)
  go_ret
  exact ⟨rfl, B3.out.bel⟩
theorem row_make (w : World) (c : Nat) (w' : World) (h : Blk w' w.heap.size ((List.replicate c 0).map enc8) 5) : Row w' enc8 (.slice (some ⟨w.heap.size, 0, none⟩) c c) (List.replicate c 0) := by
  have := Row.of_blk (enc := enc8) (l := List.replicate c 0) h
  rw [List.length_replicate] at this
  exact this
set_option maxHeartbeats 1000000 in
theorem clear_none (P : Value) (N : Nat) (hN : N ≤ 512) (fr : Int) (w : World) (hf : ∀ W, Below w.heap.size w W → Calls Try.prog 15 #[P] W fun e w' => e = .returned (.int .i64 (N : Int)) ∧ W = w') (hfr : fr < 0 ∨ (N : Int) ≤ fr) :
    Calls Try.prog 11 #[P, .int .i64 fr] w fun e w' => e = .returned (.int .i64 1) ∧ Below w.heap.size w w' := by
  obtain ⟨w1, hm, hs, hb, hbl⟩ := make_bytes w 256 (by omega)
  have HW := Lib.hid (write_bad P N hN fr 0 (some ⟨w.heap.size, 0, none⟩) 256 256 _ (hf _ hbl) (by rw [atOk_iff]; omega))
  have HB := Lib.hid hbl
  have hm0 : (Instr.makeSlice 27 (.int .i64 256) (.int .i64 256)).run Try.prog w = .ok (.slice (some ⟨w.heap.size, 0, none⟩) 256 256) w1 := hm
  clear hf hfr hN hb hs hbl hm
  go_enter Try.func11, Try.ntmps11
  go_wp2_with (go_at_call 13; refine HW.out.mono ?_; rintro e w' ⟨rfl, rfl⟩)
  go_ret
  exact ⟨rfl, HB.out⟩
set_option maxHeartbeats 1000000 in
theorem clear_calls {p q : Nat} {l : List Nat} {w : World} (h : St w p q l) (fr : Nat) (hfr : fr < l.length / 256) :
    Calls Try.prog 11 #[.pointer (some ⟨p, 0, none⟩), .int .i64 (fr : Int)] w fun e w' => e = .returned (.int .i64 0) ∧ Su p q (splice8 l (256 * fr + 0) (List.replicate 256 0)) w w' := by
  obtain ⟨w1, hm, hs, hb, hbl⟩ := make_bytes w 256 (by omega)
  have HW := Lib.hid (write_calls (h.below hbl) fr 0 _ (List.replicate 256 0) (row_make w 256 w1 hb) (by intro x hx; rw [List.mem_replicate] at hx; omega) hfr (by omega) (by rw [List.length_replicate]; omega))
  have HB := Lib.hid hbl
  have hm0 : (Instr.makeSlice 27 (.int .i64 256) (.int .i64 256)).run Try.prog w = .ok (.slice (some ⟨w.heap.size, 0, none⟩) 256 256) w1 := hm
  clear hfr hb hs hbl hm h
  generalize splice8 l (256 * fr + 0) (List.replicate 256 0) = L2 at *
  go_enter Try.func11, Try.ntmps11
  go_wp2_with (go_at_call 13; refine HW.out.mono ?_; rintro e w2 ⟨rfl, u2⟩; have U2 := Lib.hid u2; clear u2)
  go_ret
  exact ⟨rfl, Su.pre HB.out U2.out⟩
set_option maxHeartbeats 1000000 in
theorem copy_none (P : Value) (N : Nat) (hN : N ≤ 512) (tt fr : Int) (w : World) (hf : Calls Try.prog 15 #[P] w fun e w' => e = .returned (.int .i64 (N : Int)) ∧ w = w') (hfr : fr < 0 ∨ (N : Int) ≤ fr) :
    Calls Try.prog 12 #[P, .int .i64 tt, .int .i64 fr] w fun e w' => e = .returned (.int .i64 1) ∧ w = w' := by
  have HR := Lib.hid (read_bad P N hN fr 0 256 w hf (by rw [atOk_iff]; omega))
  clear hf hfr hN
  go_enter Try.func12, Try.ntmps12
  go_wp2_with (go_at_call 14; refine HR.out.mono ?_; rintro e w' ⟨rfl, rfl⟩)
  go_ret
  exact ⟨rfl, rfl⟩
set_option maxHeartbeats 1000000 in
theorem copy_to_none {p q : Nat} {l : List Nat} {w : World} (h : St w p q l) (tt : Int) (fr : Nat) (hfr : fr < l.length / 256) (hto : tt < 0 ∨ ((l.length / 256 : Nat) : Int) ≤ tt) :
    Calls Try.prog 12 #[.pointer (some ⟨p, 0, none⟩), .int .i64 tt, .int .i64 (fr : Int)] w fun e w' => e = .returned (.int .i64 1) ∧ Below w.heap.size w w' := by
  have HR := Lib.hid (read_calls h fr 0 256 hfr (by omega) (by omega))
  have hle := h.le
  have hl : ((l.drop (256 * fr + 0)).take 256).length = 256 := by rw [List.length_take, List.length_drop]; omega
  have HW := Lib.hid (fun (a : Option Addr) (cap : Nat) W (hb : Below w.heap.size w W) => write_bad (.pointer (some ⟨p, 0, none⟩)) (l.length / 256) (by omega) tt 0 a 256 cap W (frames_calls (h.below hb)) (by rw [atOk_iff]; omega))
  have HL := Lib.hid hl
  clear h hfr hto hle hl
  generalize (l.drop (256 * fr + 0)).take 256 = s at *
  go_enter Try.func12, Try.ntmps12
  go_wp2_with (first | (go_at_call 14; refine HR.out.mono ?_; rintro e w1 ⟨v, rfl, hr, hb⟩; obtain ⟨a1, cap1, rfl⟩ := hr.form; rw [HL.out]; have HB := Lib.hid hb; clear hr hb) | (go_at_call 13; refine (HW.out _ _ _ HB.out).mono ?_; rintro e w' ⟨rfl, rfl⟩))
  go_ret
  exact ⟨rfl, HB.out⟩
set_option maxHeartbeats 1000000 in
theorem copy_calls {p q : Nat} {l : List Nat} {w : World} (h : St w p q l) (tt fr : Nat) (hto : tt < l.length / 256) (hfr : fr < l.length / 256) :
    Calls Try.prog 12 #[.pointer (some ⟨p, 0, none⟩), .int .i64 (tt : Int), .int .i64 (fr : Int)] w fun e w' => e = .returned (.int .i64 0) ∧ Su p q (splice8 l (256 * tt + 0) ((l.drop (256 * fr + 0)).take 256)) w w' := by
  have HR := Lib.hid (read_calls h fr 0 256 hfr (by omega) (by omega))
  have hs : ∀ x ∈ (l.drop (256 * fr + 0)).take 256, x < 256 := fun x hx => h.bt x (List.mem_of_mem_drop (List.mem_of_mem_take hx))
  have hl : ((l.drop (256 * fr + 0)).take 256).length ≤ 256 := by rw [List.length_take]; omega
  generalize (l.drop (256 * fr + 0)).take 256 = s at *
  have HW := Lib.hid (fun v W (hb : Below w.heap.size w W) (hr : Row W enc8 v s) => write_calls (h.below hb) tt 0 v s hr hs hto (by omega) (by omega))
  clear h hfr hto hs hl
  generalize splice8 l (256 * tt + 0) s = L2 at *
  go_enter Try.func12, Try.ntmps12
  go_wp2_with (first | (go_at_call 14; refine HR.out.mono ?_; rintro e w1 ⟨v, rfl, hr, hb⟩; have HRow := Lib.hid hr; have HB := Lib.hid hb; clear hr hb) | (go_at_call 13; refine (HW.out _ _ HB.out HRow.out).mono ?_; rintro e w2 ⟨rfl, u2⟩; have U2 := Lib.hid u2; clear u2))
  go_ret
  exact ⟨rfl, Su.pre HB.out U2.out⟩
end Go.Proofs.Ytfjpdcalogfhbaa.Walks
