/- Walks through the functions of the statement, and the statement over them: each contract says what the call answers and that nothing else changes. -/
import Derived.Test.YtigeadiclajkjaaProg
import Derived.Laws.BytesString
import Derived.Test.YtigeadiclajkjaaBits
import Derived.Test.YtigeadiclajkjaaHeap
import Derived.Test.YtigeadiclajkjaaAid
import Derived.Lib.Hide
import Derived.Test.YtigeadiclajkjaaArr
import Derived.Test.YtigeadiclajkjaaEql
import Derived.Test.YtigeadiclajkjaaWalkHeap
import Derived.Test.YtigeadiclajkjaaWalkHeap2
import Derived.Test.YtigeadiclajkjaaWalkPool
import Derived.WalkKit
import Derived.WalkSpells
import Derived.WalkLawsBesides
import Derived.Deep.QuietTactic
import Derived.BigQuiet
import Derived.Deep.RegionHeld3
import Derived.Deep.DeepCutAuto
import Derived.Deep.CutBlock
import Derived.Lib.SlBytesConst
import Derived.StillTailTactics
import Derived.Laws.MakeOwn
import Derived.Deep.AppendLies
import Derived.Laws.CopyOwn
import Derived.Maps.AppendAt
import Derived.Deep.Upon
import Derived.Deep.AppendSrc
import Derived.RegionTactic
import Derived.Deep.RegionLaw
import Derived.Shelf.Abstract
namespace Go.Proofs.Ytigeadiclajkjaa.Walks
set_option linter.unusedVariables false
set_option linter.unusedSimpArgs false
open Go.RowKit Go.Proofs.Ytigeadiclajkjaa.Bits Go.Proofs.Ytigeadiclajkjaa.Heap Go.Proofs.Ytigeadiclajkjaa.Aid Go.Proofs.Ytigeadiclajkjaa.Arr Go.Proofs.Ytigeadiclajkjaa.Eql

theorem downL_id : ∀ (f : Nat) (h : List Nat) (i n : Nat), HeapN h n → downL f h i n = h
  | 0, h, i, n, _ => rfl
  | f + 1, h, i, n, hh => by
    unfold downL
    split
    · rfl
    · rename_i h1
      obtain ⟨a, b, c⟩ := kidL_lt (h := h) h1
      have := hh (kidL h i n) (by omega) a
      rw [c] at this
      rw [if_neg (by omega)]
def InitP (w : World) (B p : Nat) (vf vu : Value) (us : List Bool) (left : Int) (h : List Nat) (e : Ending) (w' : World) : Prop := e = .returned (.tuple #[]) ∧ Pv B p vf vu h us left w' ∧ Keep (fun i => vf.ownBlock = some i) w w'
set_option maxHeartbeats 4000000 in
theorem init_calls {B p : Nat} {vf vu : Value} {h : List Nat} {us : List Bool} {left : Int} {w : World} (s : Pv B p vf vu h us left w) (hh : HeapN h h.length) (h5 : h.length ≤ 1000) :
    Calls Try.prog 17 #[.iface 50 (.pointer (some ⟨p, 0, none⟩))] w (InitP w B p vf vu us left h) := by
  have EN := enter_len
  obtain ⟨a, cap, hv⟩ := own_form s.rf
  subst hv
  have mN := reach_len (s.c.cellAt (i := 0) rfl)
  have nC := len_calls (w := w) (a := a) (n := h.length) (cap := cap) (by omega)
  have S := Lib.hid s
  have DC := Lib.hid (fun W (P : Pv B p (.slice a h.length cap) vu h us left W) (i : Nat) (hi : i ≤ 1000) => by have := down_calls P i h.length (Nat.le_refl _) h5 hi; rw [downL_id _ _ _ _ hh] at this; exact this)
  have hni : (h.length : Int) ≤ 1000 := by omega
  have hq : ((h.length : Int)).tdiv 2 = ((h.length / 2 : Nat) : Int) := by rw [Int.tdiv_eq_ediv_of_nonneg (by omega)]; omega
  have hk1 : ((h.length / 2 : Nat) : Int) ≤ 1000 := by omega
  generalize h.length / 2 = k0 at *
  have K0 := Lib.hid hk1
  clear s hh h5
  go_enter Try.func17, Try.ntmps17
  go_upto_region 2 with (go_at_fn 38; refine nC.mono ?_; rintro e w2 ⟨rfl, h3⟩; subst h3)
  clear nC mN hq
  go_loopw [3] (fun vi wr => ∃ i : Int, vi = .int .i64 i ∧ -1 ≤ i ∧ i ≤ 1000 ∧ Pv B p (.slice a h.length cap) vu h us left wr ∧ Keep (fun i => (Value.slice a h.length cap).ownBlock = some i) w2 wr) (fun vi _ => (intOf vi + 1).toNat)
  case atStart => exact ⟨(k0 : Int) - 1, rfl, by omega, by have := K0.out; omega, S.out, Keep.refl _ _⟩
  case round =>
    obtain ⟨i, rfl, h0, h1, P1, K1⟩ := hrel
    have P2 := Lib.hid P1
    have K2 := Lib.hid K1
    clear P1 K1
    by_cases hn : 0 ≤ i
    · obtain ⟨j, rfl⟩ : ∃ j : Nat, i = (j : Int) := ⟨i.toNat, by omega⟩
      have D2 := Lib.hid (DC.out _ P2.out j (by omega))
      have hj : (j : Int) ≤ 1000 := h1
      go_wp2_with (go_at_call 20; refine D2.out.mono ?_; rintro e w4 ⟨⟨bb, rfl⟩, P4, K4⟩)
      all_goals exact ⟨⟨(j : Int) - 1, rfl, by omega, by omega, P4, K2.out.trans K4⟩, by simp only [intOf]; omega⟩
    · have hi : i = -1 := by omega
      subst hi
      go_wp2
      go_end0
      exact ⟨rfl, P2.out, K2.out⟩
theorem bool_info : ∃ i, Try.prog.info? 4 = some i ∧ i.zero = some (.bool false) ∧ i.size = 1 ∧ i.bytes = 1 := by
  have h : (Try.prog.info? 4).map (fun i => (i.zero, i.size, i.bytes)) = some (some (.bool false), 1, 1) := by kernel_rfl
  obtain ⟨i, hi, he⟩ := Option.map_eq_some_iff.1 h
  simp only [Prod.mk.injEq] at he
  exact ⟨i, hi, he.1, he.2.1, he.2.2⟩
theorem bool_one : ∀ b : Bool, (Value.bool b).oneCell' = true := fun _ => rfl
def New1 (w0 : World) (B p : Nat) (h : List Nat) (us : List Bool) (w : World) : Prop := ∃ vf vu, Pv B p vf vu h us (-1) w ∧ Below w0.heap.size w0 w ∧ w0.heap.size ≤ B ∧ B ≤ p
theorem one_rowI (W : World) (x : Nat) : Below W.heap.size W (W.alloc (.cells #[.int .i64 (x : Int)] 3)) ∧ Row (W.alloc (.cells #[.int .i64 (x : Int)] 3)) encI (.slice (some ⟨W.heap.size, 0, none⟩) 1 1) [x] :=
  ⟨(Below.refl _ _).alloc (Nat.le_refl _) _, Row.of_blk (l := [x]) (enc := encI) (Blk.new W #[.int .i64 (x : Int)] 3)⟩
theorem one_rowB (W : World) (b : Bool) : Below W.heap.size W (W.alloc (.cells #[.bool b] 4)) ∧ Row (W.alloc (.cells #[.bool b] 4)) Value.bool (.slice (some ⟨W.heap.size, 0, none⟩) 1 1) [b] :=
  ⟨(Below.refl _ _).alloc (Nat.le_refl _) _, Row.of_blk (l := [b]) (enc := Value.bool) (Blk.new W #[.bool b] 4)⟩
theorem growU_fin {B p : Nat} {vf v5 vu : Value} {h : List Nat} {b : Bool} {us : List Bool} {left : Int} {w W w5 : World} (s : Pv B p vf vu h us left W) (hb : Below w.heap.size w W) (hl : ∀ g, vf.ownBlock = some g → g < w.heap.size) (hp : p < w.heap.size) (hown : w5.ownsRow B 4 1 v5 (us.length + [b].length) (us.map Value.bool ++ [b].map Value.bool)) (hgrow : W.grownBy w5 vu.ownBlock)
    (hat : v5.ownBlock = vu.ownBlock ∨ v5.ownBlock = some W.heap.size) : Pv B p vf v5 h (us ++ [b]) left (w5.setCell ⟨p, 1, none⟩ v5) ∧ Keep (fun i => i = p ∨ vu.ownBlock = some i) w (w5.setCell ⟨p, 1, none⟩ v5) := by
  have K5 := keep_grown hgrow
  have hW : w.heap.size ≤ W.heap.size := hb.size
  have hne : ∀ g, v5.ownBlock = some g → vu.ownBlock = some g ∨ w.heap.size ≤ g := fun g e => by
    rcases hat with h | h
    · exact .inl (by rw [← h]; exact e)
    · right; rw [h] at e; injection e with e; omega
  have np : v5.ownBlock ≠ some p := fun e => by
    rcases hne p e with h | h
    · exact s.nu h
    · omega
  have k6 : Keep (fun i => i = p) w5 (w5.setCell ⟨p, 1, none⟩ v5) := Keep.setCell (S := fun i => i = p) (Keep.refl _ w5) (p := ⟨p, 1, none⟩) (fun _ => rfl) _
  refine ⟨⟨(s.c.keep K5 (fun e => s.nu e)).set 1 _, sl_keep (sl_keep s.rf K5 (fun g e e2 => s.nn g e e2)) k6 (fun g e e2 => s.nf (by rw [e, e2])), ?_, s.nf, np, fun g e e2 => ?_⟩, ?_⟩
  · rw [List.length_append, List.map_append]
    exact sl_keep hown k6 (fun g e e2 => np (by rw [e, e2]))
  · rcases hne g e2 with h | h
    · exact s.nn g e h
    · have := hl g e; omega
  · have k1 : Keep (fun i => i = p ∨ vu.ownBlock = some i) w W := Keep.of_below hb
    exact (k1.trans (K5.mono (fun i _ h => .inr h))).trans (k6.mono (fun i _ h => .inl h))
theorem New1.newF {w0 W w5 : World} {B p : Nat} {vf v5 vu : Value} {h : List Nat} {us : List Bool} {w : World} (s : Pv B p vf vu h us (-1) w) (b0 : Below w0.heap.size w0 w) (hB : w0.heap.size ≤ B) (hBp : B ≤ p) {x : Nat} (hb : Below w.heap.size w W) (hown : w5.ownsRow B 3 1 v5 (h.length + [x].length) (h.map encI ++ [x].map encI)) (hgrow : W.grownBy w5 vf.ownBlock)
    (hat : v5.ownBlock = vf.ownBlock ∨ v5.ownBlock = some W.heap.size) : New1 w0 B p (h ++ [x]) us (w5.setCell ⟨p, 0, none⟩ v5) := by
  obtain ⟨_, v', o, P, K⟩ := fpush_fin (s.below hb) hb (fun g e => (World.ownsRow.lt s.ru g e).2) s.c.lt hown hgrow hat
  refine ⟨v', vu, P, Keep.belowB b0 K b0.size (fun i hi e => ?_), hB, hBp⟩
  rcases e with e | e
  · omega
  · have := own_ge s.rf i e; omega
theorem New1.newU {w0 W w5 : World} {B p : Nat} {vf v5 vu : Value} {h : List Nat} {us : List Bool} {w : World} (s : Pv B p vf vu h us (-1) w) (b0 : Below w0.heap.size w0 w) (hB : w0.heap.size ≤ B) (hBp : B ≤ p) {b : Bool} (hb : Below w.heap.size w W) (hown : w5.ownsRow B 4 1 v5 (us.length + [b].length) (us.map Value.bool ++ [b].map Value.bool)) (hgrow : W.grownBy w5 vu.ownBlock)
    (hat : v5.ownBlock = vu.ownBlock ∨ v5.ownBlock = some W.heap.size) : New1 w0 B p h (us ++ [b]) (w5.setCell ⟨p, 1, none⟩ v5) := by
  obtain ⟨P, K⟩ := growU_fin (s.below hb) hb (fun g e => (World.ownsRow.lt s.rf g e).2) s.c.lt hown hgrow hat
  refine ⟨vf, v5, P, Keep.belowB b0 K b0.size (fun i hi e => ?_), hB, hBp⟩
  rcases e with e | e
  · omega
  · have := own_ge s.ru i e; omega
theorem heap_range (k : Nat) : HeapN (List.range k) (List.range k).length := by
  intro j hj hk
  rw [List.length_range] at hk
  rw [getD_el (by rw [List.length_range]; omega), getD_el (by rw [List.length_range]; omega), List.getElem_range, List.getElem_range]
  omega
theorem fr_rep (k : Nat) : fr (List.replicate k false) = List.range k := by
  unfold fr
  rw [List.length_replicate]
  apply List.filter_eq_self.2
  intro a ha
  rw [List.mem_range] at ha
  simp [List.getD_eq_getElem?_getD, ha]
def NewP (w : World) (k : Nat) (e : Ending) (w' : World) : Prop := e = .returned (.pointer (some ⟨w.heap.size, 0, none⟩)) ∧ Below w.heap.size w w' ∧ ∃ F, Pl F w.heap.size w.heap.size (List.replicate k false) (-1) w'
theorem new_fin {w w2 w3 : World} {k : Nat} {h : List Nat} {us : List Bool} (hk : k ≤ 512) (hh : h = List.range k) (hu : us = List.replicate k false) {vf vu : Value} (hb : Below w.heap.size w w2) (P : Pv w.heap.size w.heap.size vf vu h us (-1) w2) (R : InitP w2 w.heap.size w.heap.size vf vu us (-1) h (.returned (.tuple #[])) w3) :
    NewP w k (.returned (.pointer (some ⟨w.heap.size, 0, none⟩))) w3 := by
  obtain ⟨_, P3, K3⟩ := R
  subst hh; subst hu
  have b3 : Below w.heap.size w w3 := Keep.belowB hb K3 hb.size (fun i hi e => by have := own_ge P.rf i e; omega)
  refine ⟨rfl, b3, fun i => i = w.heap.size ∨ vf.ownBlock = some i ∨ vu.ownBlock = some i, ⟨⟨vf, vu, _, P3, fun g e => .inr (.inl e), fun g e => .inr (.inr e), by rw [fr_rep], heap_range k⟩, .inl rfl, fun i hi => ?_, fun i hi => ?_, by simp; exact hk, by omega, by omega⟩⟩
  · rcases hi with hi | hi | hi
    · rw [hi]; exact P3.c.lt
    · exact (World.ownsRow.lt P3.rf i hi).2
    · exact (World.ownsRow.lt P3.ru i hi).2
  · rcases hi with hi | hi | hi
    · omega
    · exact own_ge P3.rf i hi
    · exact own_ge P3.ru i hi
set_option maxHeartbeats 4000000 in
theorem new_calls (n : Int) (k : Nat) (hk : k = (min (max n 0) 512).toNat) (w : World) : Calls Try.prog 9 #[.int .i64 n] w (NewP w k) := by
  obtain ⟨ii, hii, hz, hs, hb⟩ := int_info
  obtain ⟨jj, hjj, jz, js, jb⟩ := bool_info
  have HI := Lib.hid hii
  have HZ := Lib.hid hz
  have HSz := Lib.hid hs
  have HBy := Lib.hid hb
  have JI := Lib.hid hjj
  have JZ := Lib.hid jz
  have JS := Lib.hid js
  have JB := Lib.hid jb
  clear hii hz hs hb hjj jz js jb
  have HK := Lib.hid hk
  have hk5 : k ≤ 512 := by omega
  clear hk
  have P0 : Hid (New1 w w.heap.size w.heap.size [] [] (w.alloc (.cells #[.slice none 0 0, .slice none 0 0, .int .i64 (-1)] 48))) :=
    ⟨_, _, ⟨Blk.new w #[.slice none 0 0, .slice none 0 0, .int .i64 (-1)] 48, World.ownsRow_nil _ _ _ _, World.ownsRow_nil _ _ _ _, (fun e => by cases e), (fun e => by cases e), (fun g e => by cases e)⟩, (Below.refl _ _).alloc (Nat.le_refl _) _, Nat.le_refl _, Nat.le_refl _⟩
  go_enter Try.func9, Try.ntmps9
  go_upto_region 2 with (fail)
  generalize w.alloc (.cells #[.slice none 0 0, .slice none 0 0, .int .i64 (-1)] 48) = w1 at *
  go_cut [9, 10] (fun a b wx => a = .int .i64 (k : Int) ∧ b = .int .i64 0 ∧ wx = w1)
  case first =>
    go_wp2
    all_goals
      go_meet
      have := HK.out
      exact ⟨by congr 1; omega, rfl, rfl⟩
  case rest =>
    obtain ⟨rfl, rfl, rfl⟩ := hcut
    have hki : (k : Int) ≤ 512 := by omega
    go_upto_region 3 with (fail)
    go_loopw [10] (fun vi wr => ∃ i : Nat, i ≤ k ∧ vi = .int .i64 i ∧ New1 w w.heap.size w.heap.size (List.range i) (List.replicate i false) wr) (fun vi _ => k - (intOf vi).toNat)
    case atStart => exact ⟨0, Nat.zero_le _, rfl, P0.out⟩
    case round =>
      clear P0
      obtain ⟨i, hi, rfl, vf, vu, P, b0, hB, hBp⟩ := hrel
      have hrl : (List.range i).length = i := List.length_range
      have hul : (List.replicate i false).length = i := List.length_replicate
      have P1 := Lib.hid P
      have B0 := Lib.hid b0
      obtain ⟨a, cap, hv⟩ := own_form P.rf
      rw [hrl] at hv
      subst hv
      have c0 := P.c.cellAt (i := 0) rfl
      have hii0 : (i : Int) ≤ 512 := by omega
      by_cases hlt : i < k
      · have hlti : (i : Int) < (k : Int) := by omega
        have OA := Lib.hid (one_rowI wr i)
        have PA := Lib.hid (P.below OA.out.1)
        have RF := Lib.hid PA.out.rf
        rw [hrl] at RF
        have HBS : Hid (w.heap.size ≤ (wr.alloc (.cells #[.int .i64 (i : Int)] 3)).heap.size) := Nat.le_trans b0.size OA.out.1.size
        clear P b0 hB hBp hul
        go_upto_region 6 with (at_builtin; refine wpList_append_row encI_one (by rfl) _ _ _ (by rfl) w.heap.size 3 ii _ 8 Try.underlying46 HI.out HZ.out HSz.out HBy.out (by rfl) _ i _ (by rfl) RF.out _ [i] (by rfl) OA.out.2 (by simp; unfold maxLen; omega) (by simp; omega) HBS.out ?_; intro v5 w5 hown hgrow hat; obtain ⟨a5, c5, rfl⟩ := own_form hown; have cp5 := (PA.out.c.keep (keep_grown hgrow) (fun e => PA.out.nf e)).cellAt (i := 0) rfl; have fp5 := (PA.out.c.keep (keep_grown hgrow) (fun e => PA.out.nf e)).unfrozen 0; have FF := Lib.hid (New1.newF P1.out B0.out (Nat.le_refl _) (Nat.le_refl _) OA.out.1 (by rw [hrl]; exact hown) hgrow hat); clear hown hgrow hat)
        rw [← List.range_succ] at FF
        clear cp5 fp5 HBS RF PA OA c0 P1 B0 hrl
        generalize w5.setCell ⟨w.heap.size, 0, none⟩ (.slice a5 (i + [i].length) c5) = w6 at *
        obtain ⟨vf6, vu6, P6, b6, _, _⟩ := FF.out
        have hul : (List.replicate i false).length = i := List.length_replicate
        obtain ⟨a6, cap6, hv6⟩ := own_form P6.ru
        rw [hul] at hv6
        subst hv6
        have c1 := P6.c.cellAt (i := 1) rfl
        have P7 := Lib.hid P6
        have B7 := Lib.hid b6
        have OB := Lib.hid (one_rowB w6 false)
        have PB := Lib.hid (P6.below OB.out.1)
        have RU := Lib.hid PB.out.ru
        rw [hul] at RU
        have HBT : Hid (w.heap.size ≤ (w6.alloc (.cells #[.bool false] 4)).heap.size) := Nat.le_trans b6.size OB.out.1.size
        clear P6 b6 FF
        go_upto_region 7 with (at_builtin; refine wpList_append_row bool_one (by rfl) _ _ _ (by rfl) w.heap.size 4 jj _ 1 Try.underlying39 JI.out JZ.out JS.out JB.out (by rfl) _ i _ (by rfl) RU.out _ [false] (by rfl) OB.out.2 (by simp; unfold maxLen; omega) (by simp; omega) HBT.out ?_; intro v8 w8 hown hgrow hat; obtain ⟨a8, c8, rfl⟩ := own_form hown; have cp8 := (PB.out.c.keep (keep_grown hgrow) (fun e => PB.out.nu e)).cellAt (i := 1) rfl; have fp8 := (PB.out.c.keep (keep_grown hgrow) (fun e => PB.out.nu e)).unfrozen 1; have GG := Lib.hid (New1.newU P7.out B7.out (Nat.le_refl _) (Nat.le_refl _) OB.out.1 (by rw [hul]; exact hown) hgrow hat); clear hown hgrow hat)
        rw [← List.replicate_succ'] at GG
        clear cp8 fp8 HBT RU PB OB c1 P7 B7 hul
        generalize w8.setCell ⟨w.heap.size, 1, none⟩ (.slice a8 (i + [false].length) c8) = w9 at *
        go_wp2
        all_goals exact ⟨⟨i + 1, by omega, by go_num, GG.out⟩, by simp only [intOf]; omega⟩
      · have e : i = k := by omega
        subst e
        have hn : ¬ ((i : Int) < (i : Int)) := by omega
        have IC := Lib.hid (init_calls P (by exact heap_range i) (by rw [hrl]; omega))
        clear P b0 c0
        go_wp2_with (go_at_call 17; refine IC.out.mono ?_; rintro e w4 ⟨rfl, P4, K4⟩)
        go_ret
        exact new_fin hk5 rfl rfl B0.out P1.out ⟨rfl, P4, K4⟩
end Go.Proofs.Ytigeadiclajkjaa.Walks
