/- Walks through the functions of package word, and the statements over them. -/
import Derived.Test.YtfmedcgejdkehaaProg
import Derived.Test.YtfmedcgejdkehaaBits
import Derived.Test.YtfmedcgejdkehaaHeap
import Derived.Test.YtfmedcgejdkehaaAid
import Derived.Lib.Hide
import Derived.Test.YtfmedcgejdkehaaPureWordFields
import Derived.WalkKit
import Derived.WalkSpells
import Derived.WalkLawsBesides
import Derived.Deep.QuietTactic
import Derived.BigQuiet
namespace Go.Proofs.Ytfmedcgejdkehaa.Walks
open Go.RowKit Go.Proofs.Ytfmedcgejdkehaa.Bits Go.Proofs.Ytfmedcgejdkehaa.Heap

theorem ret_int {k : IntKind} {a b : Int} (h : a = b) : Ending.returned (.int k a) = .returned (.int k b) := by rw [h]
theorem ret_bool {a b : Bool} (h : a = b) : Ending.returned (.bool a) = .returned (.bool b) := by rw [h]
theorem fld_zero {v : Nat} {a n : Int} (h : a < 0 ∨ a > 63 ∨ n ≤ 0) : (0 : Int) = ((fld v a n : Nat) : Int) := by
  unfold fld; rw [if_pos h]; rfl
theorem div_two_pow (v : Nat) (a : Int) : (v : Int) / 2 ^ a.toNat = ((v / 2 ^ a.toNat : Nat) : Int) := by simp
theorem mask_wrap {n : Int} (h0 : 0 < n) (h1 : n < 64) : IntKind.u64.wrap (IntKind.u64.wrap (2 ^ n.toNat) - 1) = ((2 ^ n.toNat - 1 : Nat) : Int) := by
  have hlt : 2 ^ n.toNat < 2 ^ 64 := Nat.pow_lt_pow_right (by omega) (by omega)
  have hp := pow_pos n.toNat
  have e : (2 : Int) ^ n.toNat = ((2 ^ n.toNat : Nat) : Int) := by simp
  rw [e, wrap_lt (k := .u64) rfl hlt, show ((2 ^ n.toNat : Nat) : Int) - 1 = ((2 ^ n.toNat - 1 : Nat) : Int) by omega]
  exact wrap_lt (k := .u64) rfl (Nat.lt_of_le_of_lt (Nat.sub_le _ _) hlt)
theorem fld_small {v : Nat} (hv : v < 2 ^ 64) {a n : Int} (h : 0 ≤ a ∧ a ≤ 63) (h0 : 0 < n) (h1 : n < 64) :
    bits .and .u64 ((v : Int) / 2 ^ a.toNat) (IntKind.u64.wrap (IntKind.u64.wrap (2 ^ n.toNat) - 1)) = ((fld v a n : Nat) : Int) := by
  have hlt : 2 ^ n.toNat < 2 ^ 64 := Nat.pow_lt_pow_right (by omega) (by omega)
  rw [mask_wrap h0 h1, div_two_pow, bits_and rfl (Nat.lt_of_le_of_lt (Nat.div_le_self _ _) hv) (Nat.lt_of_le_of_lt (Nat.sub_le _ _) hlt), Nat.and_two_pow_sub_one_eq_mod]
  unfold fld; rw [if_neg (by omega)]
theorem fld_large {v : Nat} (hv : v < 2 ^ 64) {a n : Int} (h : 0 ≤ a ∧ a ≤ 63) (h1 : 64 ≤ n) : (v : Int) / 2 ^ a.toNat = ((fld v a n : Nat) : Int) := by
  unfold fld
  rw [if_neg (by omega), Nat.mod_eq_of_lt, div_two_pow]
  exact Nat.lt_of_lt_of_le (Nat.lt_of_le_of_lt (Nat.div_le_self _ _) hv) (Nat.pow_le_pow_right (by omega) (by omega))
set_option maxHeartbeats 1000000 in
theorem field_calls {v : Nat} (hv : v < 2 ^ 64) (a n : Int) (w : World) :
    Calls Try.prog 12 #[.int .u64 v, .int .i64 a, .int .i64 n] w fun e w' => e = .returned (.int .u64 (fld v a n)) ∧ w = w' := by
  go_enter Try.func12, Try.ntmps12
  go_wp2
  · go_ret
    exact ⟨ret_int (fld_zero (by omega)), rfl⟩
  · go_ret
    exact ⟨ret_int (fld_small hv ⟨by omega, by omega⟩ (by omega) (by omega)), rfl⟩
  · go_ret
    exact ⟨ret_int (fld_large hv ⟨by omega, by omega⟩ (by omega)), rfl⟩
  · go_ret
    exact ⟨ret_int (fld_zero (by omega)), rfl⟩
  · go_ret
    exact ⟨ret_int (fld_zero (by omega)), rfl⟩
theorem leB8 (v : Nat) : (leB 8 v).map enc8 = [.int .u8 ((v : Int) % 256), .int .u8 ((v : Int) / 256 % 256), .int .u8 ((v : Int) / 65536 % 256), .int .u8 ((v : Int) / 16777216 % 256), .int .u8 ((v : Int) / 4294967296 % 256), .int .u8 ((v : Int) / 1099511627776 % 256), .int .u8 ((v : Int) / 281474976710656 % 256), .int .u8 ((v : Int) / 72057594037927936 % 256)] := by
  simp only [leB, enc8, List.map_cons, List.map_nil, Nat.div_div_eq_div_mul, Int.natCast_emod, Int.natCast_ediv]
  rfl
set_option maxHeartbeats 1000000 in
theorem bytes_calls (v : Nat) (w : World) :
    Calls Try.prog 16 #[.int .u64 v] w fun e w' => e = .returned (.slice (some ⟨w.heap.size, 0, none⟩) 8 8) ∧ w' = w.alloc (.cells ((leB 8 v).map enc8).toArray 5) := by
  have hmk : ∀ w, (Instr.makeSlice 31 (.int .i64 8) (.int .i64 8)).run Try.prog w = .ok (.slice (some ⟨w.heap.size, 0, none⟩) 8 8) (w.alloc (.cells #[.int .u8 0, .int .u8 0, .int .u8 0, .int .u8 0, .int .u8 0, .int .u8 0, .int .u8 0, .int .u8 0] 5)) := fun _ => by kernel_rfl
  have H8 : Hid ((leB 8 v).map enc8 = _) := leB8 v
  go_enter Try.func16, Try.ntmps16
  go_wp2
  refine wp_loop_rounds 9 ?_
  iterate 9 (rw [rounds_succ]; go_wp2)
  go_ret
  rw [H8.out]
  exact ⟨rfl, rfl⟩
theorem of_step {k b : Nat} (hk : k < 8) (l : List Nat) (hl : l.length = k) (hx : ∀ x ∈ l, x < 256) (hb : b < 256) :
    bits .or .u64 ((ofB l : Nat) : Int) (IntKind.u64.wrap ((b : Int) * 2 ^ (8 * k))) = ((ofB (l ++ [b]) : Nat) : Int) := by
  have h1 := ofB_lt l hx
  rw [hl] at h1
  have e2 : (256 : Nat) ^ k = 2 ^ (8 * k) := by rw [Nat.pow_mul]
  rw [e2] at h1
  have h2 : b * 2 ^ (8 * k) < 2 ^ (8 * k + 8) := by rw [Nat.pow_add, Nat.mul_comm]; exact Nat.mul_lt_mul_of_pos_left hb (pow_pos _)
  have h3 : 2 ^ (8 * k + 8) ≤ 2 ^ 64 := Nat.pow_le_pow_right (by omega) (by omega)
  have h4 : 2 ^ (8 * k) ≤ 2 ^ 64 := Nat.pow_le_pow_right (by omega) (by omega)
  have e3 : (b : Int) * 2 ^ (8 * k) = ((b * 2 ^ (8 * k) : Nat) : Int) := by simp
  rw [e3, wrap_lt (k := .u64) rfl (Nat.lt_of_lt_of_le h2 h3), bits_or (k := .u64) rfl (Nat.lt_of_lt_of_le h1 h4) (Nat.lt_of_lt_of_le h2 h3), ofB_snoc, hl, e2, Nat.or_comm, Nat.mul_comm, ← Nat.two_pow_add_eq_or_of_lt h1, Nat.add_comm]
theorem take_snoc8 (l : List Nat) (k : Nat) (h : k < l.length) (h8 : k < 8) : (l.take 8).take k ++ [l[k]] = (l.take 8).take (k + 1) := by
  have h9 : k < (l.take 8).length := by rw [List.length_take]; omega
  rw [List.take_succ_eq_append_getElem h9, List.getElem_take]
theorem take_all8 (l : List Nat) (k : Nat) (h8 : 8 ≤ k) : (l.take 8).take k = (l.take 8).take (k + 1) := by
  have h9 : (l.take 8).length ≤ k := by rw [List.length_take]; omega
  rw [List.take_of_length_le h9, List.take_of_length_le (Nat.le_succ_of_le h9)]
theorem take_end8 (l : List Nat) (k : Nat) (h : l.length ≤ k) : (l.take 8).take k = l.take 8 :=
  List.take_of_length_le (by rw [List.length_take]; omega)
set_option maxHeartbeats 1000000 in
theorem of_calls (l : List Nat) (v : Value) (w : World) (hr : Row w enc8 v l) (hx : ∀ x ∈ l, x < 256) (hn : l.length ≤ 9223372036854775807) :
    Calls Try.prog 17 #[v] w fun e w' => e = .returned (.int .u64 (ofB (l.take 8))) ∧ w = w' := by
  rcases hr with ⟨rfl, rfl⟩ | ⟨a, cap, rfl, _, hc⟩
  · go_enter Try.func17, Try.ntmps17
    go_wp2
    refine wp_loop_rounds 1 ?_
    rw [rounds_succ]
    go_wp2
    go_ret
    exact ⟨rfl, rfl⟩
  · go_enter Try.func17, Try.ntmps17
    go_wp2
    go_loop [3, 8] (fun x i => ∃ k : Nat, k ≤ l.length ∧ i = .int .i64 k ∧ x = .int .u64 (ofB ((l.take 8).take k))) (fun _ i => l.length - (intOf i).toNat)
    case atStart => exact ⟨0, Nat.zero_le _, rfl, rfl⟩
    case round =>
      obtain ⟨k, hk, rfl, rfl⟩ := hrel
      by_cases hlt : k < l.length
      · have hcell : w.cell? (a.add k) = some (.int .u8 ((l[k] : Nat) : Int)) := hc k _ (List.getElem?_eq_getElem hlt)
        have hb : l[k] < 256 := hx _ (List.getElem_mem hlt)
        by_cases h8 : k < 8
        · have hs := of_step h8 ((l.take 8).take k) (by simp; omega) (fun x h => hx x (List.mem_of_mem_take (List.mem_of_mem_take h))) hb
          rw [take_snoc8 l k hlt h8] at hs
          have hy0 : 0 ≤ ((l[k] : Nat) : Int) := by omega
          have hy1 : ((l[k] : Nat) : Int) < 256 := by omega
          have HS := Lib.hid hs
          clear hs hx hc hb
          generalize ((l[k] : Nat) : Int) = y at *
          go_wp2
          go_round
          case rel => exact ⟨k + 1, by omega, by go_num, by rw [← HS.out]⟩
          case measure => simp [intOf]; omega
        · have HT := Lib.hid (take_all8 l k (by omega))
          have hy0 : 0 ≤ ((l[k] : Nat) : Int) := by omega
          have hy1 : ((l[k] : Nat) : Int) < 256 := by omega
          clear hx hc hb
          generalize ((l[k] : Nat) : Int) = y at *
          go_wp2
          go_round
          case rel => exact ⟨k + 1, by omega, by go_num, by rw [HT.out]⟩
          case measure => simp [intOf]; omega
      · go_wp2
        go_ret
        exact ⟨ret_int (by rw [take_end8 l k (by omega)]), rfl⟩
theorem refField_calls {v : Nat} (hv : v < 2 ^ 64) (a n : Int) (w : World) :
    Calls Try.prog 13 #[.int .u64 v, .int .i64 a, .int .i64 n] w fun e w' => e = .returned (.int .u64 (fld v a n)) ∧ ∃ m, w' = w.drewN m :=
  (PWordFields.hermitcrabref01_Field.calls 66 _ _ _ _ _ (Pure.refField_eq (Nat.le_refl _) hv a n)).mono fun _ _ ⟨h, ⟨m, hm⟩⟩ => ⟨h, m, hm⟩
/-- What stands behind place d, of eight at most. -/
def behind (l : List Nat) (d : Nat) : Nat := ofB ((l.take 8).drop d)
theorem behind_lt (l : List Nat) (hl : ∀ x ∈ l, x < 256) (d : Nat) (hd : d ≤ 8) : behind l d < 256 ^ (8 - d) := by
  have h := ofB_lt ((l.take 8).drop d) (fun x hx => hl x (List.mem_of_mem_take (List.mem_of_mem_drop hx)))
  refine Nat.lt_of_lt_of_le h (Nat.pow_le_pow_right (by omega) ?_)
  rw [List.length_drop, List.length_take]; omega
theorem behind_in (l : List Nat) (j : Nat) (h : j < l.length) (h8 : j < 8) : behind l j = l[j] + 256 * behind l (j + 1) := by
  unfold behind
  have h9 : j < (l.take 8).length := by rw [List.length_take]; omega
  rw [List.drop_eq_getElem_cons h9, List.getElem_take]
  rfl
theorem behind_out (l : List Nat) (j : Nat) (h : l.length ≤ j) : behind l j = 0 ∧ behind l (j + 1) = 0 := by
  unfold behind
  rw [List.drop_of_length_le (by rw [List.length_take]; omega), List.drop_of_length_le (by rw [List.length_take]; omega)]
  exact ⟨rfl, rfl⟩
theorem fld8 (x j : Nat) (hj : j < 8) : fld x (8 * (j : Int)) 8 = x / 256 ^ j % 256 := by
  unfold fld
  rw [if_neg (by omega)]
  have e : (8 * (j : Int)).toNat = 8 * j := by omega
  rw [e, Nat.pow_mul]
  rfl
theorem cell_made (w : World) (cs : List Value) (t : TypeId) (i : Nat) : (w.alloc (.cells cs.toArray t)).cell? ⟨w.heap.size, i, none⟩ = cs[i]? := by
  exact (Blk.new w cs.toArray t).cell i
theorem step_in {b V j : Nat} (hj : j < 8) (hb : b < 256) (hV : V < 256 ^ (8 - (j + 1))) : IntKind.u64.wrap (IntKind.u64.wrap ((V : Int) * 256) + (b : Int)) = ((b + 256 * V : Nat) : Int) := by
  have h1 : 256 ^ (8 - (j + 1)) ≤ 256 ^ 7 := Nat.pow_le_pow_right (by omega) (by omega)
  have h2 : (256 : Nat) ^ 7 = 72057594037927936 := rfl
  rw [wrap_u64, wrap_u64]
  omega
set_option maxHeartbeats 4000000 in
theorem lbytes_calls {x : Nat} (hx : x < 2 ^ 64) (v : Value) (l : List Nat) (w : World) (hr : Row w enc8 v l) (hl : ∀ x ∈ l, x < 256) (h50 : l.length ≤ 50) :
    Calls Try.prog 7 #[.int .u64 x, v] w fun e w' => e = .returned (.bool true) ∧ Below w.heap.size w w' := by
  obtain ⟨a, cap, rfl⟩ : ∃ a cap, v = .slice a l.length cap := by
    rcases hr with ⟨rfl, rfl⟩ | ⟨a, cap, rfl, _, _⟩
    · exact ⟨none, 0, rfl⟩
    · exact ⟨some a, cap, rfl⟩
  go_enter Try.func7, Try.ntmps7
  go_wp2_with fail
  refine (PWordFields.hermitcrablaw01_awake.calls 1 true _ (Pure.awake_true 0)).mono ?_
  rintro e w' ⟨rfl, ⟨m1, rfl⟩⟩
  go_wp2_with fail
  refine (bytes_calls x _).mono ?_
  rintro e w' ⟨rfl, rfl⟩
  obtain ⟨w1, hw1⟩ : ∃ w1, (w.drewN m1).alloc (.cells ((leB 8 x).map enc8).toArray 5) = w1 := ⟨_, rfl⟩
  have hB : Below w.heap.size w w1 := by rw [← hw1]; exact (below_drewN (Below.refl _ _) m1).alloc (by simp) _
  have hc1 : ∀ i, w1.cell? ⟨w.heap.size, i, none⟩ = ((leB 8 x).map enc8)[i]? := fun i => by rw [← hw1]; exact cell_made (w.drewN m1) _ _ i
  have hblk : Row w1 enc8 (.slice (some ⟨w.heap.size, 0, none⟩) 8 8) (leB 8 x) := by
    have h : Blk w1 w.heap.size ((leB 8 x).map enc8) 5 := by rw [← hw1]; simpa using Blk.new (w.drewN m1) ((leB 8 x).map enc8).toArray 5
    have := Row.of_blk h
    rwa [leB_length] at this
  rw [hw1]
  clear hw1
  have H1 := Lib.hid hc1
  have HR1 := Lib.hid (hr.below hB)
  clear hc1
  go_wp2_with fail
  go_loopw [6, 7] (fun s i wr => ∃ d : Nat, d ≤ 8 ∧ i = .int .i64 ((d : Int) - 1) ∧ s = .int .u64 (behind l d) ∧ ∃ m, wr = w1.drewN m) (fun _ i _ => (intOf i + 1).toNat)
  case atStart => exact ⟨8, by omega, rfl, by unfold behind; rw [List.drop_of_length_le (by rw [List.length_take]; omega)]; rfl, 0, rfl⟩
  case round =>
    obtain ⟨d, hd, rfl, rfl, m, rfl⟩ := hrel
    cases d with
    | zero =>
      have c1 := of_calls (leB 8 x) _ _ (hblk.drewN m) (leB_lt 8 x) (by rw [leB_length]; omega)
      have c2 := of_calls l _ _ (HR1.out.drewN m) hl (by omega)
      rw [ofB_leB8 hx] at c1
      have C1 := Lib.hid c1
      have C2 := Lib.hid c2
      clear c1 c2 hblk hl
      go_wp2_with fail
      refine C1.out.mono ?_
      rintro e w' ⟨rfl, rfl⟩
      have hxx : (((x : Nat) : Int) == ((x : Nat) : Int)) = true := by simp
      go_wp2_with fail
      refine C2.out.mono ?_
      rintro e w' ⟨rfl, rfl⟩
      have e0 : ofB (l.take 8) = behind l 0 := by unfold behind; rw [List.drop_zero]
      rw [e0]
      go_wp2_with fail
      go_ret
      exact ⟨ret_bool (by simp), below_drewN hB m⟩
    | succ j =>
      have e1 : ((j + 1 : Nat) : Int) - 1 = (j : Int) := by omega
      rw [e1]
      clear e1
      have hj : j < 8 := by omega
      have hcj : w1.cell? ⟨w.heap.size, j, none⟩ = some (.int .u8 ((x : Int) / 256 ^ j % 256)) := by
        rw [H1.out, List.getElem?_map, leB_get 8 x j hj]; simp [enc8]
      have hw8 : IntKind.i64.wrap (8 * (j : Int)) = 8 * (j : Int) := IntWalk.i64_in _ (by omega)
      have hne : ((x : Int) / 256 ^ j % 256 != ((fld x (8 * (j : Int)) 8 : Nat) : Int) % 256) = false := by
        rw [fld8 x j hj]; simp
      have hblt := behind_lt l hl (j + 1) hd
      have hj8 : (j : Int) < 8 := by omega
      have hj0 : 0 ≤ (j : Int) := by omega
      by_cases hlt : j < l.length
      · obtain ⟨ad, rfl, hcp⟩ : ∃ ad, a = some ad ∧ w1.cell? (ad.add j) = some (.int .u8 ((l[j] : Nat) : Int)) := by
          rcases HR1.out with ⟨h, h0⟩ | ⟨ad, c', h, _, hc⟩
          · rw [h0] at hlt; simp at hlt
          · injection h with h1 _ _
            exact ⟨ad, h1, hc j _ (List.getElem?_eq_getElem hlt)⟩
        have hb := hl l[j] (List.getElem_mem hlt)
        have hs := step_in hj hb hblt
        rw [← behind_in l j hlt hj] at hs
        have HS := Lib.hid hs
        have hy0 : 0 ≤ ((l[j] : Nat) : Int) := by omega
        have hy1 : ((l[j] : Nat) : Int) < 256 := by omega
        clear hs hb hblt hl hblk hr
        generalize ((l[j] : Nat) : Int) = y at *
        replace hcp : (w1.drewN m).cell? (ad.add j) = some (.int .u8 y) := hcp
        replace hcj : (w1.drewN m).cell? ⟨w.heap.size, j, none⟩ = some (.int .u8 ((x : Int) / 256 ^ j % 256)) := hcj
        have HM : Hid (∀ n, ∃ k, (w1.drewN m).drewN n = w1.drewN k) := fun n => ⟨m + n, by rw [World.drewN_drewN]⟩
        generalize w1.drewN m = w2 at *
        go_wp2_with fail
        rw [HS.out]
        go_quiet ((go_at_call 13; exact Calls.quiet_of (refField_calls hx _ _ _)))
        go_wp2
        go_roundw
        case rel => exact ⟨j, by omega, rfl, rfl, HM.out _⟩
        case measure => simp [intOf]
      · obtain ⟨e0, e1⟩ := behind_out l j (by omega)
        have HE := Lib.hid e0
        rw [e1]
        clear e0 e1 hblt hl hblk hr
        replace hcj : (w1.drewN m).cell? ⟨w.heap.size, j, none⟩ = some (.int .u8 ((x : Int) / 256 ^ j % 256)) := hcj
        have HM : Hid (∀ n, ∃ k, (w1.drewN m).drewN n = w1.drewN k) := fun n => ⟨m + n, by rw [World.drewN_drewN]⟩
        generalize w1.drewN m = w2 at *
        go_wp2_with fail
        go_quiet ((go_at_call 13; exact Calls.quiet_of (refField_calls hx _ _ _)))
        go_wp2
        go_roundw
        case rel => exact ⟨j, by omega, rfl, by rw [HE.out]; rfl, HM.out _⟩
        case measure => simp [intOf]
theorem lbytes_walk (a0 : Int) (v1 : Value) (w : World) (w0 : (Lit.int .u64 a0).wf = true) (f1 : Aid.Fits w (.slice (.int .u8)) [v1]) :
    Calls Try.prog 7 #[.int .u64 a0, v1] w fun e w' => e = .returned (.bool true) ∧ Below w.heap.size w w' := by
  obtain ⟨x, rfl, hx⟩ := wf_u64 w0
  obtain ⟨l, hr, hm, hl⟩ := Aid.fits_row f1
  have hr8 := hr.map (enc' := enc8) Int.toNat (fun y hy => by
    obtain ⟨n, rfl, _⟩ := wf_u8 (hl y hy)
    rfl)
  have hl8 : ∀ y ∈ l.map Int.toNat, y < 256 := fun y hy => by
    obtain ⟨z, hz, rfl⟩ := List.mem_map.1 hy
    obtain ⟨n, rfl, hn⟩ := wf_u8 (hl z hz)
    simpa using hn
  by_cases h50 : (l.map Int.toNat).length ≤ 50
  · exact lbytes_calls hx v1 _ w hr8 hl8 h50
  · obtain ⟨a, cap, hv⟩ : ∃ a cap, v1 = .slice a (l.map Int.toNat).length cap := by
      rcases hr8 with ⟨rfl, h⟩ | ⟨a, cap, rfl, _, _⟩
      · exact ⟨none, 0, by rw [h]; rfl⟩
      · exact ⟨some a, cap, rfl⟩
    rw [hv]
    generalize (l.map Int.toNat).length = n at h50 ⊢
    clear hr8 hl8 hr hm hl f1 hv
    go_enter Try.func7, Try.ntmps7
    go_wp2_with fail
    refine (PWordFields.hermitcrablaw01_awake.calls 1 true _ (Pure.awake_true 0)).mono ?_
    rintro e w' ⟨rfl, ⟨m1, rfl⟩⟩
    go_wp2_with fail
    refine (PWordFields.hermitcrablaw01_awake.calls 1 true _ (Pure.awake_true 0)).mono ?_
    rintro e w' ⟨rfl, ⟨m2, rfl⟩⟩
    go_wp2_with fail
    go_ret
    exact ⟨rfl, by repeat (first | exact Below.refl _ _ | apply below_drewN)⟩
end Go.Proofs.Ytfmedcgejdkehaa.Walks
