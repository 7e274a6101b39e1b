/- Walks through the functions of the statement, and the statement over them: each contract says what the call answers and that nothing else changes. -/
import Derived.Test.YtigeadiclajkjaaProg
import Derived.Laws.BytesString
import Derived.Test.YtigeadiclajkjaaBits
import Derived.Test.YtigeadiclajkjaaHeap
import Derived.Test.YtigeadiclajkjaaAid
import Derived.Lib.Hide
import Derived.Test.YtigeadiclajkjaaArr
import Derived.Test.YtigeadiclajkjaaEql
import Derived.Test.YtigeadiclajkjaaWalkHeap
import Derived.Test.YtigeadiclajkjaaWalkHeap2
import Derived.Test.YtigeadiclajkjaaWalkPool
import Derived.Test.YtigeadiclajkjaaWalkNew
import Derived.Test.YtigeadiclajkjaaWalkLp
import Derived.Test.YtigeadiclajkjaaWalkSome
import Derived.WalkKit
import Derived.WalkSpells
import Derived.WalkLawsBesides
import Derived.Deep.QuietTactic
import Derived.BigQuiet
import Derived.Deep.RegionHeld3
import Derived.Deep.DeepCutAuto
import Derived.Deep.CutBlock
import Derived.Lib.SlBytesConst
import Derived.StillTailTactics
import Derived.Laws.MakeOwn
import Derived.Deep.AppendLies
import Derived.Laws.CopyOwn
import Derived.Maps.AppendAt
import Derived.Deep.Upon
import Derived.Deep.AppendSrc
import Derived.RegionTactic
import Derived.Deep.RegionLaw
import Derived.Shelf.Abstract
namespace Go.Proofs.Ytigeadiclajkjaa.Walks
set_option linter.unusedVariables false
set_option linter.unusedSimpArgs false
open Go.RowKit Go.Proofs.Ytigeadiclajkjaa.Bits Go.Proofs.Ytigeadiclajkjaa.Heap Go.Proofs.Ytigeadiclajkjaa.Aid Go.Proofs.Ytigeadiclajkjaa.Arr Go.Proofs.Ytigeadiclajkjaa.Eql

set_option maxHeartbeats 1000000 in
theorem take_nil (m : Int) (w : World) : Calls Try.prog 11 #[.pointer none] w fun e w' => e = .returned (.tuple #[.int .i64 0, .int .i64 2]) ∧ w' = w := by
  go_enter Try.func11, Try.ntmps11
  go_wp2
  go_ret2
  exact ⟨rfl, rfl⟩
set_option maxHeartbeats 1000000 in
theorem some_nil (m : Int) (w : World) : Calls Try.prog 12 #[.pointer none, .int .i64 m] w fun e w' => e = .returned (.tuple #[.slice none 0 0, .int .i64 2]) ∧ w' = w := by
  go_enter Try.func12, Try.ntmps12
  go_wp2
  go_ret2
  exact ⟨rfl, rfl⟩
set_option maxHeartbeats 1000000 in
theorem give_nil (m : Int) (w : World) : Calls Try.prog 13 #[.pointer none, .int .i64 m] w fun e w' => e = .returned (.int .i64 2) ∧ w' = w := by
  go_enter Try.func13, Try.ntmps13
  go_wp2
  go_ret
  exact ⟨rfl, rfl⟩
set_option maxHeartbeats 1000000 in
theorem used_nil (m : Int) (w : World) : Calls Try.prog 14 #[.pointer none, .int .i64 m] w fun e w' => e = .returned (.bool false) ∧ w' = w := by
  go_enter Try.func14, Try.ntmps14
  go_wp2
  go_ret
  exact ⟨rfl, rfl⟩
set_option maxHeartbeats 1000000 in
theorem left_nil (m : Int) (w : World) : Calls Try.prog 10 #[.pointer none] w fun e w' => e = .returned (.int .i64 0) ∧ w' = w := by
  go_enter Try.func10, Try.ntmps10
  go_wp2
  go_ret
  exact ⟨rfl, rfl⟩
set_option maxHeartbeats 1000000 in
theorem fail_nil (m : Int) (w : World) : Calls Try.prog 15 #[.pointer none, .int .i64 m] w fun e w' => e = .returned (.tuple #[]) ∧ w' = w := by
  go_enter Try.func15, Try.ntmps15
  go_wp2
  go_end0
  exact ⟨rfl, rfl⟩
set_option maxHeartbeats 1000000 in
theorem twin_nil (m : Int) (w : World) : Calls Try.prog 16 #[.pointer none] w fun e w' => e = .returned (.pointer none) ∧ w' = w := by
  go_enter Try.func16, Try.ntmps16
  go_wp2
  go_ret
  exact ⟨rfl, rfl⟩
theorem row_ownsG {α : Type} {enc : α → Value} {w : World} {base : Nat} {e : TypeId} {v : Value} {n : Nat} {l : List α} (h : w.ownsRow base e 1 v n (l.map enc)) : Row w enc v l := by
  have hl : l.length = n := by have := h.1; simpa using this
  by_cases h0 : 0 < n
  · obtain ⟨g, cap, sp, rfl, _, hc, _, hb⟩ := sl_form h h0
    subst hl
    refine .inr ⟨⟨g, 0, none⟩, cap, rfl, hc, fun i x hi => ?_⟩
    exact news_blk hb i _ (by rw [List.getElem?_map, hi]; rfl)
  · have h1 : n = 0 := by omega
    subst h1
    have h2 : l = [] := List.eq_nil_of_length_eq_zero hl
    subst h2
    rcases h.2 with ⟨hv, _⟩ | ⟨g, cap, cur, hv, _, _, hc, _⟩
    · exact .inl ⟨hv, rfl⟩
    · exact .inr ⟨⟨g, 0, none⟩, cap, hv, hc, fun i x hi => by simp at hi⟩
def TwinP (B : Nat) (us : List Bool) (left : Int) (w : World) (e : Ending) (w' : World) : Prop := ∃ p' F', e = .returned (.pointer (some ⟨p', 0, none⟩)) ∧ Pl F' w.heap.size p' us left w' ∧ Below w.heap.size w w'
theorem twin_fin {F : Nat → Prop} {B p : Nat} {us : List Bool} {left : Int} {w wy : World} {h : List Nat} {v5 v6 : Value} (s : Pl F B p us left w) (hp : h.Perm (fr us)) (hh : HeapN h h.length) (hb : Below w.heap.size w wy) (r5 : wy.ownsRow w.heap.size 3 1 v5 h.length (h.map encI)) (r6 : wy.ownsRow w.heap.size 4 1 v6 us.length (us.map Value.bool))
    (nn : ∀ g, v5.ownBlock = some g → v6.ownBlock ≠ some g) : TwinP B us left w (.returned (.pointer (some ⟨wy.heap.size, 0, none⟩))) (wy.alloc (.cells #[v5, v6, .int .i64 left] 48)) := by
  have ba : Below wy.heap.size wy (wy.alloc (.cells #[v5, v6, .int .i64 left] 48)) := (Below.refl _ _).alloc (Nat.le_refl _) _
  have l5 := fun g e => (World.ownsRow.lt r5 g e)
  have l6 := fun g e => (World.ownsRow.lt r6 g e)
  refine ⟨wy.heap.size, fun i => i = wy.heap.size ∨ v5.ownBlock = some i ∨ v6.ownBlock = some i, rfl, ⟨⟨v5, v6, h, ⟨Blk.new wy #[v5, v6, .int .i64 left] 48, sl_below r5 ba, sl_below r6 ba, fun e => by have := (l5 _ e).2; omega, fun e => by have := (l6 _ e).2; omega, nn⟩, fun g e => .inr (.inl e), fun g e => .inr (.inr e), hp, hh⟩, .inl rfl, fun i hi => ?_, fun i hi => ?_, s.n, s.l0, s.l1⟩, hb.trans (ba.mono hb.size)⟩
  · have hs : (wy.alloc (.cells #[v5, v6, .int .i64 left] 48)).heap.size = wy.heap.size + 1 := by simp
    rcases hi with hi | hi | hi
    · omega
    · have := (l5 _ hi).2; omega
    · have := (l6 _ hi).2; omega
  · have := hb.size
    rcases hi with hi | hi | hi
    · omega
    · exact (l5 _ hi).1
    · exact (l6 _ hi).1
/-- Two rows, the second made behind the first. -/
theorem rows_two {w wx wy : World} {e1 e2 : TypeId} {va vb : Value} {n m : Nat} {xs ys : List Value} (ra : wx.ownsRow w.heap.size e1 1 va n xs) (gb : wx.grownBy wy none) (rb : wy.ownsRow w.heap.size e2 1 vb m ys) (hat : vb.ownBlock = none ∨ vb.ownBlock = some wx.heap.size) :
    wy.ownsRow w.heap.size e1 1 va n xs ∧ ∀ g, va.ownBlock = some g → vb.ownBlock ≠ some g := by
  refine ⟨sl_keep ra (keep_grown gb) (fun g _ e => by cases e), fun g e e2 => ?_⟩
  have := (World.ownsRow.lt ra g e).2
  rcases hat with h | h
  · rw [h] at e2; cases e2
  · rw [h] at e2; injection e2 with e2; omega
set_option maxHeartbeats 4000000 in
theorem twin_calls {F : Nat → Prop} {B p : Nat} {us : List Bool} {left : Int} {w : World} (s : Pl F B p us left w) : Calls Try.prog 16 #[.pointer (some ⟨p, 0, none⟩)] w (TwinP B us left w) := by
  obtain ⟨ii, hii, hz, hs, hb⟩ := int_info
  obtain ⟨jj, hjj, jz, js, jb⟩ := bool_info
  have HI := Lib.hid hii
  have HZ := Lib.hid hz
  have HSz := Lib.hid hs
  have HBy := Lib.hid hb
  have JI := Lib.hid hjj
  have JZ := Lib.hid jz
  have JS := Lib.hid js
  have JB := Lib.hid jb
  clear hii hz hs hb hjj jz js jb
  obtain ⟨vf, vu, h, P, hF, hG, hp, hh⟩ := s.ex
  have hl : h.length ≤ 512 := by rw [hp.length_eq]; exact Nat.le_trans (fr_length_le us) s.n
  have hu : us.length ≤ 512 := s.n
  have RF := Lib.hid (fun W (b : Below w.heap.size w W) => (row_ownsG P.rf).below b)
  have RU := Lib.hid (fun W (b : Below w.heap.size w W) => (row_ownsG P.ru).below b)
  have CP := Lib.hid (fun W (b : Below w.heap.size w W) => (P.below b).c)
  have QB := Lib.hid (below_drewN (Below.refl w.heap.size w) 1)
  obtain ⟨a, cap, hv⟩ := own_form P.rf
  obtain ⟨a2, cap2, hv2⟩ := own_form P.ru
  subst hv; subst hv2
  have S := Lib.hid s
  have HPH := Lib.hid (And.intro hp hh)
  have c0 := P.c.cellAt (i := 0) rfl
  have c1 := P.c.cellAt (i := 1) rfl
  have c2 := P.c.cellAt (i := 2) rfl
  clear P s hp hh hF hG
  go_enter Try.func16, Try.ntmps16
  go_upto_region 3 with (fail)
  go_region_law (first
    | (refine step_append_row encI_one (by rfl) (.const (.slice none 0 0)) (.tmp 8) 46 (by rfl) w.heap.size 3 ii _ 8 Try.underlying46 HI.out HZ.out HSz.out HBy.out (by rfl) (.slice none 0 0) 0 [] (by rfl) (World.ownsRow_nil _ _ _ _) _ h (by rfl) (by first | exact RF.out _ QB.out | exact RF.out _ B6.out) (by unfold maxLen; omega) (by omega) (by first | exact QB.out.size | exact B6.out.size) ?_; intro v5 w5 hown hgrow hat; obtain ⟨a5, c5, rfl⟩ := own_form hown; have O5 := Lib.hid hown; have A5 := Lib.hid hat; have G5 := Lib.hid hgrow; have B5 : Hid (Below w.heap.size w w5) := (by first | exact below_grown QB.out hgrow (fun k e => by cases e) | exact below_grown B6.out hgrow (fun k e => by cases e)); have c05 := (CP.out _ B5.out).cellAt (i := 0) rfl; have c15 := (CP.out _ B5.out).cellAt (i := 1) rfl; have c25 := (CP.out _ B5.out).cellAt (i := 2) rfl; clear hown hgrow hat)
    | (refine step_append_row bool_one (by rfl) (.const (.slice none 0 0)) (.tmp 13) 39 (by rfl) w.heap.size 4 jj _ 1 Try.underlying39 JI.out JZ.out JS.out JB.out (by rfl) (.slice none 0 0) 0 [] (by rfl) (World.ownsRow_nil _ _ _ _) _ us (by rfl) (by first | exact RU.out _ QB.out | exact RU.out _ B5.out) (by unfold maxLen; omega) (by omega) (by first | exact QB.out.size | exact B5.out.size) ?_; intro v6 w6 hown hgrow hat; obtain ⟨a6, c6, rfl⟩ := own_form hown; have O6 := Lib.hid hown; have A6 := Lib.hid hat; have G6 := Lib.hid hgrow; have B6 : Hid (Below w.heap.size w w6) := (by first | exact below_grown QB.out hgrow (fun k e => by cases e) | exact below_grown B5.out hgrow (fun k e => by cases e)); have c06 := (CP.out _ B6.out).cellAt (i := 0) rfl; have c16 := (CP.out _ B6.out).cellAt (i := 1) rfl; have c26 := (CP.out _ B6.out).cellAt (i := 2) rfl; clear hown hgrow hat))
  all_goals
    go_wp2
    go_ret
    rw [Nat.zero_add, List.nil_append] at O5 O6
    rw [Nat.zero_add] at A5 A6
    first
      | exact twin_fin S.out HPH.out.1 HPH.out.2 B6.out (rows_two O5.out G6.out O6.out A6.out).1 O6.out (rows_two O5.out G6.out O6.out A6.out).2
      | exact twin_fin S.out HPH.out.1 HPH.out.2 B5.out O5.out (rows_two O6.out G5.out O5.out A5.out).1 (fun g e e2 => (rows_two O6.out G5.out O5.out A5.out).2 g e2 e)
end Go.Proofs.Ytigeadiclajkjaa.Walks
