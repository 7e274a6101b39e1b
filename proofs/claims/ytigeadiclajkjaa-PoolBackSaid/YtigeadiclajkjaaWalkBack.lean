/- Walks through the functions of the statement, and the statement over them: each contract says what the call answers and that nothing else changes. -/
import Derived.Test.YtigeadiclajkjaaProg
import Derived.Laws.BytesString
import Derived.Test.YtigeadiclajkjaaBits
import Derived.Test.YtigeadiclajkjaaHeap
import Derived.Test.YtigeadiclajkjaaAid
import Derived.Lib.Hide
import Derived.Test.YtigeadiclajkjaaArr
import Derived.Test.YtigeadiclajkjaaEql
import Derived.Test.YtigeadiclajkjaaWalkHeap
import Derived.Test.YtigeadiclajkjaaWalkHeap2
import Derived.Test.YtigeadiclajkjaaWalkPool
import Derived.Test.YtigeadiclajkjaaWalkNew
import Derived.Test.YtigeadiclajkjaaWalkLp
import Derived.Test.YtigeadiclajkjaaWalkSome
import Derived.Test.YtigeadiclajkjaaWalkTwin
import Derived.Test.YtigeadiclajkjaaWalkRuns
import Derived.Test.YtigeadiclajkjaaWalkLb
import Derived.WalkKit
import Derived.WalkSpells
import Derived.WalkLawsBesides
import Derived.Deep.QuietTactic
import Derived.BigQuiet
import Derived.Deep.RegionHeld3
import Derived.Deep.DeepCutAuto
import Derived.Deep.CutBlock
import Derived.Lib.SlBytesConst
import Derived.StillTailTactics
import Derived.Laws.MakeOwn
import Derived.Deep.AppendLies
import Derived.Laws.CopyOwn
import Derived.Maps.AppendAt
import Derived.Deep.Upon
import Derived.Deep.AppendSrc
import Derived.RegionTactic
import Derived.Deep.RegionLaw
import Derived.Shelf.Abstract
namespace Go.Proofs.Ytigeadiclajkjaa.Walks
set_option linter.unusedVariables false
set_option linter.unusedSimpArgs false
open Go.RowKit Go.Proofs.Ytigeadiclajkjaa.Bits Go.Proofs.Ytigeadiclajkjaa.Heap Go.Proofs.Ytigeadiclajkjaa.Aid Go.Proofs.Ytigeadiclajkjaa.Arr Go.Proofs.Ytigeadiclajkjaa.Eql

theorem fr_head {us : List Bool} {x : Nat} (hx : us[x]? = some false) (hb : ∀ j, j < x → us[j]? = some true) : ∃ r, fr us = x :: r := by
  have hm := fr_mem.2 hx
  cases hf : fr us with
  | nil => rw [hf] at hm; cases hm
  | cons y r =>
    have hs := fr_sorted us
    rw [hf] at hs hm
    have hy : us[y]? = some false := fr_mem.1 (by rw [hf]; simp)
    have h1 : x ≤ y := by
      rcases Nat.lt_or_ge y x with h | h
      · rw [hb y h] at hy; cases hy
      · exact h
    rcases List.mem_cons.1 hm with e | h2
    · exact ⟨r, by rw [e]⟩
    · have := (List.pairwise_cons.1 hs).1 _ h2
      omega
def nb (b : Bool) : Value := .bool (!b)
/-- Behind i rounds all below i are in use. -/
def upTo (us : List Bool) (i : Nat) : List Bool := List.replicate i true ++ us.drop i
theorem upTo_zero (us : List Bool) : upTo us 0 = us := by simp [upTo]
theorem upTo_get {us : List Bool} {i : Nat} (hi : i < us.length) : (upTo us i)[i]? = us[i]? ∧ ∀ j, j < i → (upTo us i)[j]? = some true := by
  unfold upTo
  refine ⟨?_, fun j hj => ?_⟩
  · rw [List.getElem?_append_right (by simp)]; simp
  · rw [List.getElem?_append_left (by simpa using hj)]; simp [List.getElem?_replicate, hj]
theorem upTo_succ {us : List Bool} {i : Nat} (hi : i < us.length) : (upTo us i).set i true = upTo us (i + 1) := by
  unfold upTo
  rw [List.set_append_right _ _ (by simp), List.drop_eq_getElem_cons hi, List.replicate_succ', List.length_replicate, Nat.sub_self, List.set_cons_zero, List.append_assoc]
  rfl
theorem upTo_same {us : List Bool} {i : Nat} (hi : us[i]? = some true) : upTo us i = upTo us (i + 1) := by
  have hl := some_lt' hi
  rw [← upTo_succ hl]
  have h := (upTo_get hl).1
  rw [hi] at h
  have hl2 := some_lt' h
  rw [List.getElem?_eq_getElem hl2] at h
  injection h with h
  rw [← h, List.set_getElem_self]
theorem upTo_all {us : List Bool} : fr (upTo us us.length) = [] := by
  unfold upTo
  rw [List.drop_length]
  have := fr_app us.length 0
  simpa using this
theorem all_taken (k : Nat) : setAll (List.replicate k false) ((fr (List.replicate k false)).take k) true = List.replicate k true := by
  rw [fr_rep]
  apply List.ext_getElem?
  intro i
  by_cases hi : i < k
  · rw [setAll_get _ _ _ _ (by simpa using hi), if_pos (by rw [List.take_of_length_le (by simp)]; exact List.mem_range.2 hi)]
    simp [List.getElem?_replicate, hi]
  · rw [List.getElem?_eq_none (by rw [setAll_length]; simpa using hi), List.getElem?_eq_none (by simpa using hi)]
theorem nb_set (us : List Bool) (x : Nat) : (us.map nb).set x (.bool true) = (us.set x false).map nb := by rw [List.map_set]; rfl
theorem zero_256 (w : World) : (zeroValue 34).run Try.prog w = .ok (.agg (List.replicate 256 (Value.bool false)).toArray) w := by kernel_rfl
set_option maxRecDepth 8000 in
set_option maxHeartbeats 8000000 in
theorem poolBack_walk (v1 : Value) (w : World) (f1 : Aid.Fits w (.slice (.int .u8)) [v1]) :
    Calls Try.prog 4 #[v1] w fun e w' => e = .returned (.bool true) ∧ Below w.heap.size w w' := by
  obtain ⟨l, hr, hl, hm⟩ := bytes_row f1
  obtain ⟨a, cap, rfl⟩ := hr.form
  have AW := Lib.hid (fun W => awake_calls W)
  by_cases h100 : l.length ≤ 100
  · have HR := Lib.hid hr
    have HL := Lib.hid hl
    have NW := Lib.hid (fun W (b : Below w.heap.size w W) => LP.new (w0 := w) 256 256 (by decide) b)
    have hli : (l.length : Int) ≤ 100 := by omega
    clear f1 hr hl hm
    have SM := Lib.hid (fun W p (h : LP w p (List.replicate 256 false) (-1) W) => h.lb.someOk 256 256 (by decide) (by decide) (by refine ⟨?_, .inl (by decide)⟩; rw [fr_rep]; simp))
    rw [all_taken, show leftN (-1) 256 = -1 from rfl] at SM
    have hul : (List.replicate 256 true).length = 256 := by simp
    have hz' : List.replicate 256 (Value.bool false) = (List.replicate 256 true).map nb := by rw [List.map_replicate]; rfl
    have hz := fun w => zero_256 w
    rw [hz'] at hz
    clear hz'
    generalize List.replicate 256 false = us00 at *
    generalize List.replicate 256 true = us0 at *
    have HU := Lib.hid hul
    have hzs : (us0.map nb).toArray.size = 256 := by simp [hul]
    have hzn : (us0.map nb).toArray ≠ #[] := fun e => by rw [e] at hzs; cases hzs
    generalize hzc : us0.map nb = ZC at *
    have HZ := Lib.hid hzc
    clear hzc hul
    go_enter Try.func4, Try.ntmps4
    go_upto_region 3 with (go_at_call 8; refine (AW.out _).mono ?_; rintro e w1 ⟨rfl, b1⟩; have N1 := Lib.hid (NW.out _ b1); clear b1)
    clear AW NW
    go_upto_region 4 with (go_at_call 9; refine N1.out.mono ?_; rintro e w2 ⟨p, rfl, h⟩; have H2 := Lib.hid (SM.out _ _ h); clear h)
    clear N1 SM
    go_upto_region 7 with (go_at_call 12; refine H2.out.mono ?_; rintro e w3 ⟨a3, c3, rfl, h3, r3, _⟩; have H3 := Lib.hid (h3.sub (G' := fun _ => False) (fun _ h => h.elim)); clear h3 r3)
    clear H2
    go_upto_region 9 with (fail)
    have H4 := Lib.hid (H3.out.alloc (.cells ZC.toArray 34))
    have K4 : Hid (Blk (w3.alloc (.cells ZC.toArray 34)) w3.heap.size ZC 34) := Blk.new w3 ZC.toArray _
    clear H3
    generalize hb : w3.heap.size = b at *
    have HP := Lib.hid (fun W (s : Below w.heap.size w W) => (HR.out.below s))
    go_loopw [7] (fun vi wr => ∃ (i : Nat) (us : List Bool), i ≤ l.length ∧ vi = .int .i64 i ∧ us.length = 256 ∧ LB w p us (-1) (fun i => i = b ∨ False) wr ∧ Blk wr b (us.map nb) 34) (fun vi _ => l.length - (intOf vi).toNat)
    case atStart => exact ⟨0, us0, Nat.zero_le _, rfl, HU.out, H4.out, by rw [HZ.out]; exact K4.out⟩
    case round =>
      clear H4 K4 HU HZ hz hzs hzn
      obtain ⟨i, us, hi, rfl, hu, h, k⟩ := hrel
      have H5 := Lib.hid h
      have K5 := Lib.hid k
      have HU := Lib.hid hu
      clear h k hu
      by_cases hlt : i < l.length
      · have hlti : (i : Int) < (l.length : Int) := by omega
        obtain ⟨ad, rfl, hcp⟩ : ∃ ad, a = some ad ∧ ∀ wx, Below w.heap.size w wx → wx.cell? (ad.add i) = some (.int .u8 ((l[i] : Nat) : Int)) := by
          rcases HR.out with ⟨h, h0⟩ | ⟨ad, c', h, _, hc⟩
          · rw [h0] at hlt; simp at hlt
          · injection h with h1 _ _
            refine ⟨ad, h1, fun wx hb => ?_⟩
            have h2 := hc i _ (List.getElem?_eq_getElem hlt)
            rw [hb.cell (World.block_lt_of_cell? w _ h2), h2]; rfl
        have hx := HL.out l[i] (List.getElem_mem hlt)
        have CP := Lib.hid hcp
        clear hcp
        generalize l[i] = x at *
        have cx := CP.out _ H5.out.bel
        have hx0 : 0 ≤ (x : Int) := by omega
        have hx1 : (x : Int) ≤ 255 := by omega
        have hxu : x < us.length := by rw [HU.out]; exact hx
        cases hu : us[x] with
        | true =>
          have hux : us[x]? = some true := by rw [List.getElem?_eq_getElem hxu, hu]
          have G := Lib.hid (H5.out.give hux)
          have HX := Lib.hid hux
          clear hux hu hxu hx
          go_upto_region 12 with (go_at_call 13; refine G.out.mono ?_; rintro e w7 ⟨rfl, h7, k7⟩; have H7 := Lib.hid h7; have K7 := Lib.hid (blk_keepG K5.out k7 (.inl rfl)); clear h7 k7)
          clear G H5 K5 cx
          have cx := CP.out _ H7.out.bel
          have ch : w7.cell? ⟨b, x, none⟩ = some (.bool false) := K7.out.cellAt (by rw [List.getElem?_map, HX.out]; rfl)
          have fh := K7.out.unfrozen x
          have H8 := Lib.hid (H7.out.set (b := b) (.inl rfl) x (.bool true))
          have K8 := Lib.hid (K7.out.set x (.bool true))
          rw [nb_set] at K8
          clear H7 K7 HX
          go_wp2
          all_goals exact ⟨⟨i + 1, us.set x false, by omega, by go_num, by rw [List.length_set]; exact HU.out, H8.out, K8.out⟩, by simp only [intOf]; omega⟩
        | false =>
          have hux : us[x]? = some false := by rw [List.getElem?_eq_getElem hxu, hu]
          have G := Lib.hid (H5.out.lp.giveUsed hux)
          have ch : wr.cell? ⟨b, x, none⟩ = some (.bool true) := K5.out.cellAt (by rw [List.getElem?_map, hux]; rfl)
          have fh := K5.out.unfrozen x
          have H8 := Lib.hid (H5.out.set (b := b) (.inl rfl) x (.bool true))
          have K8 := Lib.hid (K5.out.set x (.bool true))
          rw [nb_set] at K8
          have E8 := Lib.hid (show us.set x false = us by rw [← hu, List.set_getElem_self])
          clear H5 K5 hux hu hxu hx
          go_upto_region 12 with (go_at_call 13; refine G.out.mono ?_; rintro e w7 ⟨rfl, h7⟩; subst h7)
          clear G
          go_wp2
          all_goals exact ⟨⟨i + 1, us.set x false, by omega, by go_num, by rw [List.length_set]; exact HU.out, by have := H8.out; rw [← E8.out] at this; exact this, K8.out⟩, by simp only [intOf]; omega⟩
      · have e : i = l.length := by omega
        subst e
        clear HP
        go_upto_region 16 with (fail)
        go_loopw [9] (fun vi wx => ∃ (j : Nat), j ≤ 256 ∧ vi = .int .i64 j ∧ LB w p (upTo us j) (-1) (fun i => i = b ∨ False) wx ∧ Blk wx b (us.map nb) 34) (fun vi _ => 256 - (intOf vi).toNat)
        case atStart => exact ⟨0, by omega, rfl, by rw [upTo_zero]; exact H5.out, K5.out⟩
        case round =>
          clear H5 K5
          obtain ⟨j, hj, rfl, h, k⟩ := hrel
          have H6 := Lib.hid h
          have K6 := Lib.hid k
          clear h k
          by_cases hj6 : j < 256
          · have hji : (j : Int) ≤ 255 := by omega
            have hju : j < us.length := by rw [HU.out]; exact hj6
            cases hu : us[j] with
            | true =>
              have hux : us[j]? = some true := by rw [List.getElem?_eq_getElem hju, hu]
              have ch : wr.cell? ⟨b, j, none⟩ = some (.bool false) := K6.out.cellAt (by rw [List.getElem?_map, hux]; rfl)
              have E := Lib.hid (upTo_same hux)
              clear hux hu hju
              go_wp2
              all_goals exact ⟨⟨j + 1, by omega, by go_num, by rw [← E.out]; exact H6.out, K6.out⟩, by simp only [intOf]; omega⟩
            | false =>
              have hux : us[j]? = some false := by rw [List.getElem?_eq_getElem hju, hu]
              have ch : wr.cell? ⟨b, j, none⟩ = some (.bool true) := K6.out.cellAt (by rw [List.getElem?_map, hux]; rfl)
              obtain ⟨r, hr⟩ := fr_head (us := upTo us j) (x := j) (by rw [(upTo_get hju).1, hux]) (upTo_get hju).2
              have T := Lib.hid (H6.out.take (by decide) hr)
              rw [upTo_succ hju, show decL (-1) = -1 from rfl] at T
              clear hux hu hju hr
              go_wp2_with (go_at_call 11; refine T.out.mono ?_; rintro e w8 ⟨rfl, h8, k8⟩; have H8 := Lib.hid h8; have K8 := Lib.hid (blk_keepG K6.out k8 (.inl rfl)); clear h8 k8)
              all_goals exact ⟨⟨j + 1, by omega, by go_num, H8.out, K8.out⟩, by simp only [intOf]; omega⟩
          · have e : j = 256 := by omega
            subst e
            have L := Lib.hid H6.out.lp.left
            rw [show upTo us 256 = upTo us us.length by rw [HU.out], upTo_all] at L
            go_wp2_with (go_at_call 10; refine L.out.mono ?_; rintro e w8 ⟨rfl, h8⟩; subst h8)
            go_ret
            exact ⟨rfl, H6.out.bel⟩
  · have hl0 : ¬ ((l.length : Int) ≤ 100) := by omega
    have hl1 : (100 : Int) < (l.length : Int) := by omega
    clear f1 hr hl h100
    have A0 := Lib.hid (AW.out w)
    go_enter Try.func4, Try.ntmps4
    go_upto_region 2 with (go_at_call 8; refine A0.out.mono ?_; rintro e w1 ⟨rfl, b1⟩; have B1 := Lib.hid b1; have A1 := Lib.hid (AW.out w1); clear b1)
    clear A0 AW
    go_wp2_with (go_at_call 8; refine A1.out.mono ?_; rintro e w2 ⟨rfl, b2⟩)
    go_ret
    exact ⟨rfl, B1.out.trans (b2.mono B1.out.size)⟩
end Go.Proofs.Ytigeadiclajkjaa.Walks
