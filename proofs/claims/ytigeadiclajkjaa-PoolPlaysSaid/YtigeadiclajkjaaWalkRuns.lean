/- Walks through the functions of the statement, and the statement over them: each contract says what the call answers and that nothing else changes. -/
import Derived.Test.YtigeadiclajkjaaProg
import Derived.Laws.BytesString
import Derived.Test.YtigeadiclajkjaaBits
import Derived.Test.YtigeadiclajkjaaHeap
import Derived.Test.YtigeadiclajkjaaAid
import Derived.Lib.Hide
import Derived.Test.YtigeadiclajkjaaArr
import Derived.Test.YtigeadiclajkjaaEql
import Derived.Test.YtigeadiclajkjaaWalkHeap
import Derived.Test.YtigeadiclajkjaaWalkHeap2
import Derived.Test.YtigeadiclajkjaaWalkPool
import Derived.Test.YtigeadiclajkjaaWalkNew
import Derived.Test.YtigeadiclajkjaaWalkLp
import Derived.Test.YtigeadiclajkjaaWalkSome
import Derived.WalkKit
import Derived.WalkSpells
import Derived.WalkLawsBesides
import Derived.Deep.QuietTactic
import Derived.BigQuiet
import Derived.Deep.RegionHeld3
import Derived.Deep.DeepCutAuto
import Derived.Deep.CutBlock
import Derived.Lib.SlBytesConst
import Derived.StillTailTactics
import Derived.Laws.MakeOwn
import Derived.Deep.AppendLies
import Derived.Laws.CopyOwn
import Derived.Maps.AppendAt
import Derived.Deep.Upon
import Derived.Deep.AppendSrc
import Derived.RegionTactic
import Derived.Deep.RegionLaw
import Derived.Shelf.Abstract
namespace Go.Proofs.Ytigeadiclajkjaa.Walks
set_option linter.unusedVariables false
set_option linter.unusedSimpArgs false
open Go.RowKit Go.Proofs.Ytigeadiclajkjaa.Bits Go.Proofs.Ytigeadiclajkjaa.Heap Go.Proofs.Ytigeadiclajkjaa.Aid Go.Proofs.Ytigeadiclajkjaa.Arr Go.Proofs.Ytigeadiclajkjaa.Eql

theorem LP.below {w0 w w' : World} {p : Nat} {us : List Bool} {left : Int} (s : LP w0 p us left w) (hb : Below w.heap.size w w') : LP w0 p us left w' := by
  obtain ⟨F, s, b⟩ := s
  exact ⟨F, s.below hb, b.trans (hb.mono b.size)⟩
theorem LP.used {w0 w : World} {p x : Nat} {b : Bool} {us : List Bool} {left : Int} (s : LP w0 p us left w) (hx : us[x]? = some b) :
    Calls Try.prog 14 #[.pointer (some ⟨p, 0, none⟩), .int .i64 (x : Int)] w fun e w' => e = .returned (.bool b) ∧ w' = w := by
  obtain ⟨F, s, _⟩ := s
  exact used_calls s x b hx
theorem canTake_all {us : List Bool} {k : Nat} : canTake us (-1) k ↔ k ≤ (fr us).length := ⟨fun h => h.1, fun h => ⟨h, .inl (by omega)⟩⟩
def RowI (B : Nat) (v : Value) (l : List Nat) (w : World) : Prop := w.ownsRow B 3 1 v l.length (l.map encI)
theorem LP.someOk {w0 w : World} {p : Nat} {us : List Bool} (s : LP w0 p us (-1) w) (k : Nat) (hk : k ≤ 1000) (hl : k ≤ (fr us).length) :
    Calls Try.prog 12 #[.pointer (some ⟨p, 0, none⟩), .int .i64 (k : Int)] w fun e w' => ∃ a cap, e = .returned (.tuple #[.slice a k cap, .int .i64 0]) ∧ LP w0 p (setAll us ((fr us).take k) true) (-1) w' ∧ RowI w.heap.size (.slice a k cap) ((fr us).take k) w' := by
  obtain ⟨F, s, b⟩ := s
  refine (some_calls s (k : Int) k (by omega) hk).mono ?_
  rintro e w' (⟨_, v, rfl, F', s', k', f', L⟩ | ⟨h, _⟩)
  · obtain ⟨a, cap, hv⟩ := own_form L.r
    rw [show ((fr us).take k).length = k by rw [List.length_take]; omega] at hv
    subst hv
    exact ⟨a, cap, rfl, ⟨F', s', Keep.belowB b k' b.size (fun i hi e => by have := s.ge i e; omega)⟩, L.r⟩
  · exact absurd (canTake_all.2 hl) h
theorem LP.someBad {w0 w : World} {p : Nat} {us : List Bool} (s : LP w0 p us (-1) w) (k : Nat) (hk : k ≤ 1000) (hl : (fr us).length < k) :
    Calls Try.prog 12 #[.pointer (some ⟨p, 0, none⟩), .int .i64 (k : Int)] w fun e w' => e = .returned (.tuple #[.slice none 0 0, .int .i64 3]) ∧ LP w0 p us (-1) w' := by
  obtain ⟨F, s, b⟩ := s
  refine (some_calls s (k : Int) k (by omega) hk).mono ?_
  rintro e w' (⟨h, _⟩ | ⟨_, rfl, i, _, _, _, h⟩)
  · have := h.1; omega
  · exact ⟨rfl, lp_of s b h⟩
theorem rowI_cell {B j : Nat} {v : Value} {l : List Nat} {w : World} (h : RowI B v l w) (hj : j < l.length) : ∃ g cap, v = .slice (some ⟨g, 0, none⟩) l.length cap ∧ ∀ i, i < l.length → w.cell? ⟨g, i, none⟩ = some (.int .i64 ((l.getD i 0 : Nat) : Int)) := by
  obtain ⟨g, cap, sp, hv, _, _, _, hb⟩ := sl_form h (by omega)
  exact ⟨g, cap, hv, fun i hi => cellI hb hi⟩
theorem sorted_get {l : List Nat} (hs : l.Pairwise (· < ·)) {j : Nat} (h0 : 0 < j) (hj : j < l.length) : l.getD (j - 1) 0 < l.getD j 0 := by
  rw [getD_el hj, getD_el (by omega)]
  exact List.pairwise_iff_getElem.1 hs _ _ _ _ (by omega)
theorem takes_sorted (us : List Bool) (i : Nat) : ((fr us).take i).Pairwise (· < ·) := (fr_sorted us).sublist (List.take_sublist i _)
set_option maxRecDepth 8000 in
set_option maxHeartbeats 8000000 in
theorem poolRuns_walk (a0 : Int) (v1 : Value) (w : World) (w0 : (Lit.int .u8 a0).wf = true) (f1 : Aid.Fits w (.slice (.int .u8)) [v1]) :
    Calls Try.prog 5 #[.int .u8 a0, v1] w fun e w' => e = .returned (.bool true) ∧ Below w.heap.size w w' := by
  obtain ⟨n, rfl, hn⟩ := wf_u8 w0
  obtain ⟨l, hr, hl, hm⟩ := bytes_row f1
  obtain ⟨a, cap, rfl⟩ := hr.form
  have AW := Lib.hid (fun W => awake_calls W)
  by_cases h30 : l.length ≤ 30
  · have HR := Lib.hid hr
    have HL := Lib.hid hl
    have NW := Lib.hid (fun W (b : Below w.heap.size w W) => LP.new (w0 := w) (n : Int) n (by omega) b)
    have RP := Lib.hid (show (fr (List.replicate n false)).length = n by rw [fr_rep, List.length_range])
    have hni : (n : Int) ≤ 255 := by omega
    have hli : (l.length : Int) ≤ 30 := by omega
    clear w0 f1 hr hl hm hn
    go_enter Try.func5, Try.ntmps5
    go_upto_region 3 with (go_at_call 8; refine (AW.out _).mono ?_; rintro e w1 ⟨rfl, b1⟩; have N1 := Lib.hid (NW.out _ b1); clear b1)
    clear AW NW
    go_upto_region 6 with (go_at_call 9; refine N1.out.mono ?_; rintro e w2 ⟨p, rfl, h⟩; have H2 := Lib.hid h; clear h)
    clear N1
    go_loopw [6, 7] (fun sl vi wr => ∃ (i : Nat) (us : List Bool), i ≤ l.length ∧ vi = .int .i64 i ∧ sl = .int .i64 ((fr us).length : Int) ∧ LP w p us (-1) wr ∧ (fr us).length ≤ 255) (fun _ vi _ => l.length - (intOf vi).toNat)
    case atStart => exact ⟨0, _, Nat.zero_le _, rfl, by rw [RP.out], H2.out, by rw [RP.out]; omega⟩
    case round =>
      clear H2 RP
      obtain ⟨i, us, hi, rfl, rfl, h, hu5⟩ := hrel
      have H := Lib.hid h
      clear h
      by_cases hlt : i < l.length
      · have hlti : (i : Int) < (l.length : Int) := by omega
        obtain ⟨ad, rfl, hcp⟩ : ∃ ad, a = some ad ∧ ∀ wx, Below w.heap.size w wx → wx.cell? (ad.add i) = some (.int .u8 ((l[i] : Nat) : Int)) := by
          rcases HR.out with ⟨h, h0⟩ | ⟨ad, c', h, _, hc⟩
          · rw [h0] at hlt; simp at hlt
          · injection h with h1 _ _
            refine ⟨ad, h1, fun wx hb => ?_⟩
            have h2 := hc i _ (List.getElem?_eq_getElem hlt)
            rw [hb.cell (World.block_lt_of_cell? w _ h2), h2]; rfl
        have hb := HL.out l[i] (List.getElem_mem hlt)
        obtain ⟨k, hk⟩ : ∃ k, l[i] % 40 = k := ⟨_, rfl⟩
        have hki : ((l[i] : Nat) : Int) % 40 = (k : Int) := by omega
        have hk40 : k < 40 := by omega
        have hy0 : 0 ≤ ((l[i] : Nat) : Int) := by omega
        have hy1 : ((l[i] : Nat) : Int) ≤ 255 := by omega
        have cx := hcp _ (by obtain ⟨_, _, b⟩ := H.out; exact b)
        generalize ((l[i] : Nat) : Int) = xi at *
        clear hcp hb hk
        by_cases hle : k ≤ (fr us).length
        · have S := Lib.hid (H.out.someOk k (by omega) hle)
          have hlu : (k : Int) ≤ ((fr us).length : Int) := by omega
          have hkk : (k : Int) ≤ 39 := by omega
          have hkl : k ≤ us.length := Nat.le_trans hle (fr_length_le us)
          have TL := Lib.hid (show ((fr us).take k).length = k by rw [List.length_take]; omega)
          have FR := Lib.hid (show (fr (setAll us ((fr us).take k) true)).length = (fr us).length - k by rw [fr_setAll us k hle, List.length_drop])
          have US := Lib.hid (fun W (h : LP w p (setAll us ((fr us).take k) true) (-1) W) j (hj : j < k) => h.used (x := ((fr us).take k).getD j 0) (b := true) (by
            have hj2 : j < ((fr us).take k).length := by rw [List.length_take]; omega
            have hm : ((fr us).take k).getD j 0 ∈ (fr us).take k := by rw [getD_el hj2]; exact List.getElem_mem hj2
            rw [setAll_get _ _ _ _ (some_lt' (takes_false us k _ hm)), if_pos hm]))
          have SO := Lib.hid (fun j (h0 : 0 < j) (hj : j < k) => sorted_get (takes_sorted us k) h0 (by rw [List.length_take]; omega))
          have LF := Lib.hid (fun W (h : LP w p (setAll us ((fr us).take k) true) (-1) W) => by have := h.left; rw [fr_setAll us k hle, List.length_drop, show ((((fr us).length - k : Nat)) : Int) = ((fr us).length : Int) - (k : Int) by omega] at this; exact this)
          generalize setAll us ((fr us).take k) true = us2 at *
          generalize (fr us).take k = xs at *
          go_upto_region 10 with (go_at_call 12; refine S.out.mono ?_; rintro e w5 ⟨a5, c5, rfl, h5, r5⟩; have H5 := Lib.hid h5; have R5 := Lib.hid r5; clear h5 r5)
          clear S H cx
          go_upto_region 15 with (fail)
          go_loopw [11] (fun vj wx => ∃ j : Nat, j ≤ k ∧ vj = .int .i64 j ∧ LP w p us2 (-1) wx ∧ RowI wr.heap.size (.slice a5 k c5) xs wx) (fun vj _ => k - (intOf vj).toNat)
          case atStart => exact ⟨0, Nat.zero_le _, rfl, H5.out, R5.out⟩
          case round =>
            clear H5 R5
            obtain ⟨j, hj, rfl, h, r⟩ := hrel
            have H6 := Lib.hid h
            have R6 := Lib.hid r
            clear h r
            by_cases hjk : j < k
            · have hjk0 : (j : Int) < (k : Int) := by omega
              obtain ⟨g, c6, hv, hc⟩ := rowI_cell R6.out (by rw [TL.out]; exact hjk)
              rw [TL.out] at hv hc
              injection hv with hv3 hv5 hv4
              subst hv3; subst hv4; clear hv5
              have cj := hc j hjk
              have UC := Lib.hid (fun q => US.out _ (H6.out.below (below_drewN (Below.refl _ _) q)) j hjk)
              have SJ := Lib.hid (SO.out j)
              generalize hxj : xs.getD j 0 = xj at *
              by_cases hj0 : j = 0
              · subst hj0
                have hk1 : (0 : Int) < (k : Int) := by omega
                clear hc hxj hjk hjk0 SJ SO FR LF
                go_upto_region 17 with (fail)
                go_quiet ((go_at_call 14; exact Calls.quiet_of_same (UC.out _)))
                go_wp2
                all_goals exact ⟨⟨1, by omega, by go_num, H6.out.below (below_drewN (Below.refl _ _) _), sl_below R6.out (below_drewN (Below.refl _ _) _)⟩, by simp only [intOf]; omega⟩
              · have hj1 : 0 < j := by omega
                obtain ⟨i2, rfl⟩ : ∃ i2, j = i2 + 1 := ⟨j - 1, by omega⟩
                have cy := hc i2 (by omega)
                have hyx := SJ.out hj1 hjk
                rw [Nat.add_sub_cancel] at hyx
                generalize xs.getD i2 0 = y at *
                have hyi : (y : Int) < (xj : Int) := by omega
                have hk1 : (i2 : Int) + 1 < (k : Int) := by omega
                have hk2 : (i2 : Int) ≤ 38 := by omega
                have HK1 := Lib.hid hjk
                clear hc hxj hjk hjk0 SJ SO FR LF hj1 hyx hj0
                go_upto_region 17 with (fail)
                go_quiet ((go_at_call 14; exact Calls.quiet_of_same (UC.out _)))
                go_wp2
                all_goals exact ⟨⟨i2 + 2, by have := HK1.out; omega, by go_num, H6.out.below (below_drewN (Below.refl _ _) _), sl_below R6.out (below_drewN (Below.refl _ _) _)⟩, by have := HK1.out; simp only [intOf]; omega⟩
            · have e : j = k := by omega
              subst e
              have L6 := Lib.hid (LF.out _ H6.out)
              go_wp2_with (go_at_call 10; refine L6.out.mono ?_; rintro e w6 ⟨rfl, h6⟩; subst h6)
              all_goals exact ⟨⟨i + 1, us2, by omega, by go_num, by rw [FR.out]; congr 1; omega, H6.out, by rw [FR.out]; omega⟩, by simp only [intOf]; omega⟩
        · have S := Lib.hid (H.out.someBad k (by omega) (by omega))
          have hlu : ((fr us).length : Int) < (k : Int) := by omega
          have LF := Lib.hid (fun W (h : LP w p us (-1) W) => h.left)
          go_upto_region 10 with (go_at_call 12; refine S.out.mono ?_; rintro e w5 ⟨rfl, h⟩; have H5 := Lib.hid h; have L5 := Lib.hid (LF.out _ h); clear h)
          clear S LF H cx
          go_upto_region 15 with (fail)
          go_loopw [11] (fun vj wx => vj = .int .i64 0 ∧ wx = w5) (fun _ _ => 0)
          case atStart => exact ⟨rfl, rfl⟩
          case round =>
            obtain ⟨rfl, rfl⟩ := hrel
            go_wp2_with (go_at_call 10; refine L5.out.mono ?_; rintro e w6 ⟨rfl, h6⟩; subst h6)
            all_goals exact ⟨⟨i + 1, us, by omega, by go_num, rfl, H5.out, hu5⟩, by simp only [intOf]; omega⟩
      · have e : i = l.length := by omega
        subst e
        go_wp2
        go_ret
        obtain ⟨_, _, b⟩ := H.out
        exact ⟨rfl, b⟩
  · have hl0 : ¬ ((l.length : Int) ≤ 30) := by omega
    have hl1 : (30 : Int) < (l.length : Int) := by omega
    clear w0 f1 hr hl h30 hn
    have A0 := Lib.hid (AW.out w)
    go_enter Try.func5, Try.ntmps5
    go_upto_region 2 with (go_at_call 8; refine A0.out.mono ?_; rintro e w1 ⟨rfl, b1⟩; have B1 := Lib.hid b1; have A1 := Lib.hid (AW.out w1); clear b1)
    clear A0 AW
    go_wp2_with (go_at_call 8; refine A1.out.mono ?_; rintro e w2 ⟨rfl, b2⟩)
    go_ret
    exact ⟨rfl, B1.out.trans (b2.mono B1.out.size)⟩
end Go.Proofs.Ytigeadiclajkjaa.Walks
