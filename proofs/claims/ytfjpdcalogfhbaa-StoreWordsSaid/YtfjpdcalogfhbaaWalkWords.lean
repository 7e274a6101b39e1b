/- Walks through the functions of the statement, and the statement over them: each contract says what the call answers and that nothing else changes. -/
import Derived.Test.YtfjpdcalogfhbaaProg
import Derived.Test.YtfjpdcalogfhbaaWalkStore
import Derived.Test.YtfjpdcalogfhbaaWalkStore2
import Derived.Laws.BytesString
import Derived.Test.YtfjpdcalogfhbaaBits
import Derived.Test.YtfjpdcalogfhbaaHeap
import Derived.Test.YtfjpdcalogfhbaaAid
import Derived.Lib.Hide
import Derived.Test.YtfjpdcalogfhbaaArr
import Derived.Test.YtfjpdcalogfhbaaEql
import Derived.WalkKit
import Derived.WalkSpells
import Derived.WalkLawsBesides
import Derived.Deep.QuietTactic
import Derived.BigQuiet
import Derived.Deep.RegionHeld3
import Derived.Deep.DeepCutAuto
import Derived.Deep.CutBlock
import Derived.Lib.SlBytesConst
import Derived.StillTailTactics
import Derived.Laws.MakeOwn
import Derived.Deep.AppendLies
import Derived.Laws.CopyOwn
import Derived.RegionTactic
namespace Go.Proofs.Ytfjpdcalogfhbaa.Walks
set_option linter.unusedVariables false
set_option linter.unusedSimpArgs false
open Go.RowKit Go.Proofs.Ytfjpdcalogfhbaa.Bits Go.Proofs.Ytfjpdcalogfhbaa.Heap Go.Proofs.Ytfjpdcalogfhbaa.Aid Go.Proofs.Ytfjpdcalogfhbaa.Arr Go.Proofs.Ytfjpdcalogfhbaa.Eql

def wb (l : List Nat) : List Nat := l.flatMap (leB 8)
theorem wb_length (l : List Nat) : (wb l).length = 8 * l.length := by
  induction l with
  | nil => rfl
  | cons x r ih =>
    have : wb (x :: r) = leB 8 x ++ wb r := rfl
    rw [this, List.length_append, leB_length, ih, List.length_cons]; omega
theorem wb_snoc (l : List Nat) (x : Nat) : wb (l ++ [x]) = wb l ++ leB 8 x := by simp [wb]
theorem wb_append (l m : List Nat) : wb (l ++ m) = wb l ++ wb m := by simp [wb]
theorem wb_lt (l : List Nat) : ∀ x ∈ wb l, x < 256 := by
  intro x hx
  simp only [wb, List.mem_flatMap] at hx
  obtain ⟨y, _, hx⟩ := hx
  exact leB_lt 8 y x hx
def sw (l : List Nat) (k : Nat) : List Nat := wb (l.take k) ++ List.replicate (256 - 8 * k) 0
theorem sw_len {l : List Nat} (hl : l.length ≤ 32) {k : Nat} (hk : k ≤ l.length) : (sw l k).length = 256 := by
  rw [sw, List.length_append, wb_length, List.length_take, List.length_replicate]; omega
theorem sw_step {l : List Nat} (hl : l.length ≤ 32) {k : Nat} (hk : k < l.length) : splice8 (sw l k) (256 * 0 + 8 * k) (leB 8 l[k]) = sw l (k + 1) := by
  have h1 : (wb (l.take k)).length = 8 * k := by rw [wb_length, List.length_take]; omega
  unfold splice8 sw
  rw [leB_length, List.take_succ_eq_append_getElem hk, wb_snoc, show 256 * 0 + 8 * k = (wb (l.take k)).length by rw [h1]; omega, List.take_left, List.drop_append, List.drop_of_length_le (by omega), List.nil_append, List.drop_replicate, h1]
  congr 2
  omega
theorem sw_at {l : List Nat} {k : Nat} (hk : k < l.length) : ((sw l l.length).drop (256 * 0 + 8 * k)).take 8 = leB 8 l[k] := by
  have h1 : (wb (l.take k)).length = 8 * k := by rw [wb_length, List.length_take]; omega
  have e : l = l.take k ++ l[k] :: l.drop (k + 1) := by rw [List.getElem_cons_drop, List.take_append_drop]
  have e2 : wb l = wb (l.take k) ++ (leB 8 l[k] ++ wb (l.drop (k + 1))) := by
    conv => lhs; rw [e]
    rw [wb_append]; rfl
  unfold sw
  rw [List.take_of_length_le (Nat.le_refl _), e2, show 256 * 0 + 8 * k = (wb (l.take k)).length by rw [h1]; omega, List.append_assoc, List.drop_left, List.append_assoc]
  have h8 : (leB 8 l[k]).length = 8 := leB_length _ _
  rw [List.take_append_of_le_length (by omega), List.take_of_length_le (by omega)]
theorem sw_all {l : List Nat} : ((sw l l.length).drop (256 * 0 + 0)).take (8 * l.length) = wb l := by
  unfold sw
  rw [List.take_of_length_le (Nat.le_refl _)]
  simp only [Nat.mul_zero, Nat.add_zero, List.drop_zero]
  rw [← wb_length, List.take_left]
theorem Os.keep {S : Nat → Prop} {w w1 w2 : World} {p q : Nat} {l : List Nat} (h : Os w p q l w1) (k : Keep S w1 w2) (hp : ¬ S p) (hq : ¬ S q) (hs : ∀ i, i < w.heap.size → ¬ S i) : Os w p q l w2 := by
  obtain ⟨cap, h1, h2, h3⟩ := h.k.hp
  obtain ⟨sp, h4⟩ := h.k.hq
  exact ⟨Keep.belowB h.bel k h.bel.size hs, h.n, ⟨⟨cap, h1, h2, h3.keep k hp⟩, ⟨sp, h4.keep k hq⟩, h.k.ne, h.k.le, h.k.bt⟩⟩
theorem own_ge {w : World} {base : Nat} {e : TypeId} {size : Nat} {v : Value} {n : Nat} {xs : List Value} (h : w.ownsRow base e size v n xs) : ∀ g, v.ownBlock = some g → base ≤ g := fun g hg => (World.ownsRow.lt h g hg).1
theorem own_form {w : World} {base : Nat} {e : TypeId} {size : Nat} {v : Value} {n : Nat} {xs : List Value} (h : w.ownsRow base e size v n xs) : ∃ a cap, v = .slice a n cap := by
  rcases h.2 with ⟨hv, h0⟩ | ⟨g, cap, cur, hv, _⟩
  · exact ⟨none, 0, by rw [hv, h0]⟩
  · exact ⟨_, cap, hv⟩
set_option maxHeartbeats 4000000 in
theorem storeWords_walk (v0 : Value) (w : World) (f : Fits w (.slice (.int .u64)) [v0]) :
    Calls Try.prog 6 #[v0] w fun e w' => e = .returned (.bool true) ∧ Below w.heap.size w w' := by
  obtain ⟨l, hr, hx, hmax⟩ := words_row f
  obtain ⟨a, cap, rfl⟩ := hr.form
  have HR := Lib.hid hr
  have HX := Lib.hid hx
  clear hr hx f
  by_cases h32 : l.length ≤ 32
  · have hd : decide (32 < (l.length : Int)) = false := decide_eq_false (by omega)
    obtain ⟨ii, hii, hz, hs, hb⟩ := byte_info
    have HI := Lib.hid hii
    have HZ := Lib.hid hz
    have HSz := Lib.hid hs
    have HBy := Lib.hid hb
    clear hii hz hs hb
    have HN := Lib.hid (new_calls 1)
    rw [show 256 * (min (max (1 : Int) 0) 512).toNat = 256 from rfl, show List.replicate 256 0 = sw l 0 from rfl] at HN
    go_enter Try.func6, Try.ntmps6
    go_upto_region 5 with (first | (go_at_call 7; refine (awake_calls _).mono ?_; rintro e wa ⟨rfl, ua⟩; have BA := Lib.hid ua; clear ua) | (go_at_call 8; refine (HN.out _).mono ?_; rintro e w1 ⟨rfl, k1, b1⟩; have B1 := Lib.hid (Os.new BA.out k1 b1); clear k1 b1))
    have PL := Lib.hid B1.out.k.plt
    have QL := Lib.hid B1.out.k.qlt
    have WL := Lib.hid B1.out.bel.size
    generalize wa.heap.size + 1 = P at *
    generalize wa.heap.size = Q at *
    generalize hB : w1.heap.size = B at *
    have HB := Lib.hid hB
    clear hB HN BA
    go_wp2
    go_loopw [4, 5] (fun t i wr => ∃ k : Nat, k ≤ l.length ∧ i = .int .i64 k ∧ Os w P Q (sw l k) wr ∧ wr.ownsRow B 5 1 t (8 * k) ((wb (l.take k)).map enc8) ∧ B ≤ wr.heap.size) (fun _ i _ => l.length - (intOf i).toNat)
    case atStart => exact ⟨0, by omega, rfl, B1.out, World.ownsRow_nil _ _ _ _, by rw [HB.out]; omega⟩
    case round =>
      clear B1
      obtain ⟨k, hk, rfl, o2, n2, b2⟩ := hrel
      obtain ⟨av, capv, rfl⟩ := own_form n2
      have B2 := Lib.hid o2
      have N2 := Lib.hid n2
      have Z2 := Lib.hid b2
      clear o2 n2 b2
      by_cases hlt : k < l.length
      · obtain ⟨ad, rfl, hcp⟩ : ∃ ad, a = some ad ∧ ∀ wx, Below w.heap.size w wx → wx.cell? (ad.add k) = some (.int .u64 ((l[k] : Nat) : Int)) := by
          rcases HR.out with ⟨h, h0⟩ | ⟨ad, c', h, _, hc⟩
          · rw [h0] at hlt; simp at hlt
          · injection h with h1 _ _
            refine ⟨ad, h1, fun wx hb => ?_⟩
            have h2 := hc k _ (List.getElem?_eq_getElem hlt)
            rw [hb.cell (World.block_lt_of_cell? w _ h2), h2]; rfl
        have CP := Lib.hid hcp
        clear hcp
        have SC := Lib.hid (save_calls B2.out.k 0 k l[k] (by rw [sw_len h32 hk]; omega) (by omega))
        rw [sw_step h32 hlt] at SC
        have BC := Lib.hid (bytes_calls l[k])
        have HT := Lib.hid (show (wb (l.take (k + 1))).map enc8 = (wb (l.take k)).map enc8 ++ (leB 8 l[k]).map enc8 by rw [List.take_succ_eq_append_getElem hlt, wb_snoc, List.map_append])
        have LO := Lib.hid (one_enc8 (leB 8 l[k]))
        have LL := Lib.hid (show ((leB 8 l[k]).map enc8).length = 8 * 1 by rw [List.length_map, leB_length])
        have NW := Lib.hid (fun W : World => news_blk (cs := (leB 8 l[k]).map enc8) (sp := []) (by rw [List.append_nil]; exact Blk.new W ((leB 8 l[k]).map enc8).toArray 5))
        have c1 := CP.out _ B2.out.bel
        generalize ((l[k] : Nat) : Int) = xi at *
        generalize (leB 8 l[k]).map enc8 = bs at *
        go_upto_region 10 with (go_at_call 9; refine SC.out.mono ?_; rintro e w3 ⟨rfl, u3⟩; have B3 := Lib.hid (B2.out.su u3); have N3 := Lib.hid (sl_keep N2.out u3.k (fun g hg => by have := own_ge N2.out g hg; have := QL.out; omega)); have Z3 := Lib.hid (Nat.le_trans Z2.out u3.k.size); clear u3)
        have c3 := CP.out _ B3.out.bel
        clear c1
        go_wp2_with (first | (go_at_call 10; refine (BC.out _).mono ?_; rintro e w4 ⟨rfl, rfl⟩) | (at_builtin; refine wpList_append_own _ (by rfl) _ _ _ (by rfl) B 5 ii _ 1 1 Try.underlying27 HI.out HZ.out HSz.out HBy.out (by rfl) (by omega) (.slice av (8 * k) capv) (8 * k) _ (by rfl) (sl_below N3.out ((Below.refl _ _).alloc (Nat.le_refl _) _)) ⟨w3.heap.size, 0, none⟩ 8 8 bs (by rfl) LL.out (NW.out _) LO.out (by unfold maxLen; omega) (by omega) (Nat.le_trans Z3.out (by simp)) ?_; intro v5 w5 hown hgrow hiff; have G5 := Lib.hid hgrow; have N5 := Lib.hid hown; clear hgrow hown hiff))
        have K5 := Lib.hid (keep_grown G5.out)
        have B4 := Lib.hid (B3.out.step (((Below.refl _ _).alloc (Nat.le_refl _) (.cells bs.toArray 5))))
        have GE := Lib.hid (own_ge N3.out)
        have B5 := Lib.hid (B4.out.keep K5.out (fun h => by have := GE.out _ h; have := PL.out; omega) (fun h => by have := GE.out _ h; have := QL.out; omega) (fun i hi h => by have := GE.out _ h; have := WL.out; omega))
        have Z5 := Lib.hid (Nat.le_trans Z3.out (Nat.le_trans (by simp) G5.out.size))
        go_roundw
        case rel => exact ⟨k + 1, by omega, by go_num, B5.out, by rw [show 8 * (k + 1) = 8 * k + 8 by omega, HT.out]; exact N5.out, Z5.out⟩
        case measure => simp [intOf]; omega
      · obtain rfl : k = l.length := by omega
        clear hk hlt
        rw [List.take_of_length_le (Nat.le_refl _)] at N2
        obtain ⟨wo, rfl⟩ : ∃ wo : World, wo = wr := ⟨_, rfl⟩
        have RW := Lib.hid (row_owns N2.out)
        clear N2 Z2
        go_wp2
        go_loopw [6, 7, 8] (fun i _ _ wr => ∃ k : Nat, k ≤ l.length ∧ i = .int .i64 k ∧ Os w P Q (sw l l.length) wr ∧ Below wo.heap.size wo wr) (fun i _ _ _ => l.length - (intOf i).toNat)
        case atStart => exact ⟨0, by omega, rfl, B2.out, Below.refl _ _⟩
        case round =>
          clear B2
          obtain ⟨k, hk, rfl, o2, u2⟩ := hrel
          have B2 := Lib.hid o2
          have U2 := Lib.hid u2
          clear o2 u2
          by_cases hlt : k < l.length
          · obtain ⟨ad, rfl, hcp⟩ : ∃ ad, a = some ad ∧ ∀ wx, Below w.heap.size w wx → wx.cell? (ad.add k) = some (.int .u64 ((l[k] : Nat) : Int)) := by
              rcases HR.out with ⟨h, h0⟩ | ⟨ad, c', h, _, hc⟩
              · rw [h0] at hlt; simp at hlt
              · injection h with h1 _ _
                refine ⟨ad, h1, fun wx hb => ?_⟩
                have h2 := hc k _ (List.getElem?_eq_getElem hlt)
                rw [hb.cell (World.block_lt_of_cell? w _ h2), h2]; rfl
            have CP := Lib.hid hcp
            clear hcp
            have LC := Lib.hid (load_calls B2.out.k 0 k (by rw [sw_len h32 (Nat.le_refl _)]; omega) (by omega))
            have ev : ofB (leB 8 l[k]) = l[k] := by
              have := ofB_leB8 (HX.out l[k] (List.getElem_mem hlt))
              rw [List.take_of_length_le (by rw [leB_length]; omega)] at this
              exact this
            rw [sw_at hlt, ev] at LC
            clear ev
            generalize ((l[k] : Nat) : Int) = xi at *
            go_upto_region 15 with (go_at_call 18; refine LC.out.mono ?_; rintro e w3 ⟨rfl, u3⟩; have B3 := Lib.hid (B2.out.step u3); have U3 := Lib.hid (U2.out.trans (u3.mono U2.out.size)); clear u3)
            have c3 := CP.out _ B3.out.bel
            go_wp2
            go_roundw
            case rel => exact ⟨k + 1, by omega, by go_num, B3.out, U3.out⟩
            case measure => simp [intOf]; omega
          · obtain rfl : k = l.length := by omega
            have RC := Lib.hid (read_calls B2.out.k 0 0 (8 * l.length) (by rw [sw_len h32 (Nat.le_refl _)]; omega) (by omega) (by omega))
            rw [sw_all] at RC
            have R2 := Lib.hid (RW.out.below U2.out)
            go_upto_region 18 with (go_at_call 14; refine RC.out.mono ?_; rintro e w3 ⟨v3, rfl, r3, u3⟩; have B3 := Lib.hid (B2.out.step u3); have R3 := Lib.hid r3; have R4 := Lib.hid (R2.out.below u3); clear u3 r3)
            have s1 := run_string (P := Try.prog) w3 27 9 5 Try.underlying27 Try.underlying5 Try.underlying9 _ _ R3.out
            have s2 := run_string (P := Try.prog) w3 27 9 5 Try.underlying27 Try.underlying5 Try.underlying9 _ _ R4.out
            generalize strOf (wb l) = S at *
            go_wp2
            go_ret
            exact ⟨rfl, B3.out.bel⟩
  · have hd : decide (32 < (l.length : Int)) = true := decide_eq_true (by omega)
    go_enter Try.func6, Try.ntmps6
    go_upto_region 2 with (go_at_call 7; refine (awake_calls _).mono ?_; rintro e wa ⟨rfl, ua⟩; have BA := Lib.hid ua; clear ua)
    go_wp2_with (go_at_call 7; refine (awake_calls _).mono ?_; rintro e wb ⟨rfl, ub⟩; have BB := Lib.hid (BA.out.trans (ub.mono BA.out.size)); clear ub)
    go_ret
    exact ⟨rfl, BB.out⟩
end Go.Proofs.Ytfjpdcalogfhbaa.Walks
