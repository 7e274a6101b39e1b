/- Walks through the functions of the statement, and the statement over them: each contract says what the call answers and that nothing else changes. -/
import Derived.Test.YtigeadiclajkjaaProg
import Derived.Laws.BytesString
import Derived.Test.YtigeadiclajkjaaBits
import Derived.Test.YtigeadiclajkjaaHeap
import Derived.Test.YtigeadiclajkjaaAid
import Derived.Lib.Hide
import Derived.Test.YtigeadiclajkjaaArr
import Derived.Test.YtigeadiclajkjaaEql
import Derived.Test.YtigeadiclajkjaaWalkHeap
import Derived.Test.YtigeadiclajkjaaWalkHeap2
import Derived.Test.YtigeadiclajkjaaWalkPool
import Derived.Test.YtigeadiclajkjaaWalkNew
import Derived.Test.YtigeadiclajkjaaWalkLp
import Derived.Test.YtigeadiclajkjaaWalkSome
import Derived.Test.YtigeadiclajkjaaWalkTwin
import Derived.Test.YtigeadiclajkjaaWalkRuns
import Derived.WalkKit
import Derived.WalkSpells
import Derived.WalkLawsBesides
import Derived.Deep.QuietTactic
import Derived.BigQuiet
import Derived.Deep.RegionHeld3
import Derived.Deep.DeepCutAuto
import Derived.Deep.CutBlock
import Derived.Lib.SlBytesConst
import Derived.StillTailTactics
import Derived.Laws.MakeOwn
import Derived.Deep.AppendLies
import Derived.Laws.CopyOwn
import Derived.Maps.AppendAt
import Derived.Deep.Upon
import Derived.Deep.AppendSrc
import Derived.RegionTactic
import Derived.Deep.RegionLaw
import Derived.Shelf.Abstract
namespace Go.Proofs.Ytigeadiclajkjaa.Walks
set_option linter.unusedVariables false
set_option linter.unusedSimpArgs false
open Go.RowKit Go.Proofs.Ytigeadiclajkjaa.Bits Go.Proofs.Ytigeadiclajkjaa.Heap Go.Proofs.Ytigeadiclajkjaa.Aid Go.Proofs.Ytigeadiclajkjaa.Arr Go.Proofs.Ytigeadiclajkjaa.Eql

/-- A pool of the statement's own, beside other blocks of its own (G). -/
def LB (w0 : World) (p : Nat) (us : List Bool) (left : Int) (G : Nat → Prop) (w : World) : Prop := ∃ F, Pl F w0.heap.size p us left w ∧ Below w0.heap.size w0 w ∧ ∀ i, G i → ¬ F i ∧ w0.heap.size ≤ i ∧ i < w.heap.size
theorem LB.bel {w0 w : World} {p : Nat} {us : List Bool} {left : Int} {G : Nat → Prop} (s : LB w0 p us left G w) : Below w0.heap.size w0 w := by
  obtain ⟨_, _, b, _⟩ := s; exact b
theorem LB.lp {w0 w : World} {p : Nat} {us : List Bool} {left : Int} {G : Nat → Prop} (s : LB w0 p us left G w) : LP w0 p us left w := by
  obtain ⟨F, a, b, _⟩ := s; exact ⟨F, a, b⟩
theorem LB.n {w0 w : World} {p : Nat} {us : List Bool} {left : Int} {G : Nat → Prop} (s : LB w0 p us left G w) : us.length ≤ 512 := by
  obtain ⟨F, a, b, _⟩ := s; exact a.n
theorem LB.ge {w0 w : World} {p : Nat} {us : List Bool} {left : Int} {G : Nat → Prop} (s : LB w0 p us left G w) {i : Nat} (hi : G i) : w0.heap.size ≤ i ∧ i < w.heap.size := by
  obtain ⟨F, a, b, c⟩ := s; exact (c i hi).2
theorem LB.sub {w0 w : World} {p : Nat} {us : List Bool} {left : Int} {G G' : Nat → Prop} (s : LB w0 p us left G w) (h : ∀ i, G' i → G i) : LB w0 p us left G' w := by
  obtain ⟨F, a, b, c⟩ := s; exact ⟨F, a, b, fun i hi => c i (h i hi)⟩
theorem LP.lb {w0 w : World} {p : Nat} {us : List Bool} {left : Int} (s : LP w0 p us left w) : LB w0 p us left (fun _ => False) w := by
  obtain ⟨F, a, b⟩ := s; exact ⟨F, a, b, fun i hi => hi.elim⟩
/-- What writes the other blocks, or makes new ones, leaves the pool. -/
theorem LB.other {w0 w w' : World} {p : Nat} {us : List Bool} {left : Int} {G S : Nat → Prop} (s : LB w0 p us left G w) (k : Keep S w w') (hs : ∀ i, S i → G i ∨ w.heap.size ≤ i) : LB w0 p us left G w' := by
  obtain ⟨F, a, b, c⟩ := s
  refine ⟨F, a.keep k (fun i hi h2 => ?_), Keep.belowB b k b.size (fun i hi h2 => ?_), fun i hi => ⟨(c i hi).1, (c i hi).2.1, Nat.lt_of_lt_of_le (c i hi).2.2 k.size⟩⟩
  · rcases hs i h2 with h | h
    · exact (c i h).1 hi
    · have := a.lt i hi; omega
  · rcases hs i h2 with h | h
    · have := (c i h).2.1; omega
    · have := b.size; omega
/-- A new block is one more. -/
theorem LB.add {w0 w w' : World} {p g : Nat} {us : List Bool} {left : Int} {G S : Nat → Prop} (s : LB w0 p us left G w) (k : Keep S w w') (hs : ∀ i, S i → G i ∨ w.heap.size ≤ i) (hg : w.heap.size ≤ g) (hl : g < w'.heap.size) : LB w0 p us left (fun i => i = g ∨ G i) w' := by
  have h := s.other k hs
  obtain ⟨F, a, b, c⟩ := s
  refine ⟨F, a.keep k (fun i hi h2 => ?_), h.bel, fun i hi => ?_⟩
  · rcases hs i h2 with h | h
    · exact (c i h).1 hi
    · have := a.lt i hi; omega
  · rcases hi with rfl | hi
    · exact ⟨fun h2 => by have := a.lt _ h2; omega, Nat.le_trans b.size hg, hl⟩
    · exact ⟨(c i hi).1, (c i hi).2.1, Nat.lt_of_lt_of_le (c i hi).2.2 k.size⟩
theorem LB.below {w0 w w' : World} {p : Nat} {us : List Bool} {left : Int} {G : Nat → Prop} (s : LB w0 p us left G w) (hb : Below w.heap.size w w') : LB w0 p us left G w' :=
  s.other (S := fun _ => False) (Keep.of_below hb) (fun _ h => h.elim)
theorem LB.alloc {w0 w : World} {p : Nat} {us : List Bool} {left : Int} {G : Nat → Prop} (s : LB w0 p us left G w) (o : Obj) : LB w0 p us left (fun i => i = w.heap.size ∨ G i) (w.alloc o) :=
  s.add (S := fun _ => False) ((Keep.refl _ w).alloc o) (fun _ h => h.elim) (Nat.le_refl _) (by simp)
theorem LB.set {w0 w : World} {p b : Nat} {us : List Bool} {left : Int} {G : Nat → Prop} (s : LB w0 p us left G w) (hb : G b) (i : Nat) (v : Value) : LB w0 p us left G (w.setCell ⟨b, i, none⟩ v) :=
  s.other (S := fun j => j = b) (Keep.setCell (S := fun j => j = b) (Keep.refl _ w) (p := ⟨b, i, none⟩) (fun _ => rfl) v) (fun j h => .inl (by rw [h]; exact hb))
/-- What a call on the pool leaves: the other blocks. -/
theorem lb_of {w0 w w' : World} {F G : Nat → Prop} {p : Nat} {us us' : List Bool} {left left' : Int} (a : Pl F w0.heap.size p us left w) (b : Below w0.heap.size w0 w) (c : ∀ i, G i → ¬ F i ∧ w0.heap.size ≤ i ∧ i < w.heap.size) (k : PlK F w0.heap.size p us' left' w w') : LB w0 p us' left' G w' ∧ Keep (fun i => ¬ G i) w w' := by
  obtain ⟨F', a', k, h⟩ := k
  refine ⟨⟨F', a', Keep.belowB b k b.size (fun i hi e => by have := a.ge i e; omega), fun i hi => ⟨fun h2 => ?_, (c i hi).2.1, Nat.lt_of_lt_of_le (c i hi).2.2 k.size⟩⟩, k.mono (fun i _ h1 h2 => (c i h2).1 h1)⟩
  rcases h i h2 with h3 | h3
  · exact (c i hi).1 h3
  · have := (c i hi).2.2; omega
theorem blk_keepG {w w' : World} {G : Nat → Prop} {b : Nat} {cs : List Value} {t : TypeId} (h : Blk w b cs t) (k : Keep (fun i => ¬ G i) w w') (hb : G b) : Blk w' b cs t := h.keep k (fun h2 => h2 hb)
theorem rowI_keepG {w w' : World} {G : Nat → Prop} {B : Nat} {v : Value} {l : List Nat} (h : RowI B v l w) (k : Keep (fun i => ¬ G i) w w') (hb : ∀ g, v.ownBlock = some g → G g) : RowI B v l w' := sl_keep h k (fun g e h2 => h2 (hb g e))
theorem LB.take {w0 w : World} {p x : Nat} {r : List Nat} {us : List Bool} {left : Int} {G : Nat → Prop} (s : LB w0 p us left G w) (h0 : left ≠ 0) (hx : fr us = x :: r) :
    Calls Try.prog 11 #[.pointer (some ⟨p, 0, none⟩)] w fun e w' => e = .returned (.tuple #[.int .i64 (x : Int), .int .i64 0]) ∧ LB w0 p (us.set x true) (decL left) G w' ∧ Keep (fun i => ¬ G i) w w' := by
  obtain ⟨F, a, b, c⟩ := s
  refine (take_calls a h0 hx).mono ?_
  rintro e w' ⟨rfl, k⟩
  exact ⟨rfl, lb_of a b c k⟩
theorem LB.give {w0 w : World} {p x : Nat} {us : List Bool} {left : Int} {G : Nat → Prop} (s : LB w0 p us left G w) (hx : us[x]? = some true) :
    Calls Try.prog 13 #[.pointer (some ⟨p, 0, none⟩), .int .i64 (x : Int)] w fun e w' => e = .returned (.int .i64 0) ∧ LB w0 p (us.set x false) left G w' ∧ Keep (fun i => ¬ G i) w w' := by
  obtain ⟨F, a, b, c⟩ := s
  refine (give_calls a x hx).mono ?_
  rintro e w' ⟨rfl, k⟩
  exact ⟨rfl, lb_of a b c k⟩
theorem LP.giveUsed {w0 w : World} {p x : Nat} {us : List Bool} {left : Int} (s : LP w0 p us left w) (hx : us[x]? = some false) :
    Calls Try.prog 13 #[.pointer (some ⟨p, 0, none⟩), .int .i64 (x : Int)] w fun e w' => e = .returned (.int .i64 8) ∧ w' = w := by
  obtain ⟨F, a, b⟩ := s
  exact give_used a x hx
theorem LB.fail {w0 w : World} {p : Nat} {us : List Bool} {left : Int} {G : Nat → Prop} (s : LB w0 p us left G w) (m : Int) (hm : m ≤ 9223372036854775807) :
    Calls Try.prog 15 #[.pointer (some ⟨p, 0, none⟩), .int .i64 m] w fun e w' => e = .returned (.tuple #[]) ∧ LB w0 p us (failL m) G w' ∧ Keep (fun i => ¬ G i) w w' := by
  obtain ⟨F, a, b, c⟩ := s
  refine (fail_calls a m hm).mono ?_
  rintro e w' ⟨rfl, a', k⟩
  exact ⟨rfl, lb_of a b c ⟨F, a', k, fun i hi => .inl hi⟩⟩
theorem LB.someOk {w0 w : World} {p : Nat} {us : List Bool} {left : Int} {G : Nat → Prop} (s : LB w0 p us left G w) (m : Int) (k : Nat) (hk : k = (max m 0).toNat) (hk5 : k ≤ 1000) (hc : canTake us left k) :
    Calls Try.prog 12 #[.pointer (some ⟨p, 0, none⟩), .int .i64 m] w fun e w' => ∃ a cap, e = .returned (.tuple #[.slice a k cap, .int .i64 0]) ∧ LB w0 p (setAll us ((fr us).take k) true) (leftN left k) (fun i => (∃ ad, a = some ad ∧ ad.block = i) ∨ G i) w' ∧ RowI w.heap.size (.slice a k cap) ((fr us).take k) w' ∧ Keep (fun i => ¬ G i) w w' := by
  obtain ⟨F, a, b, c⟩ := s
  refine (some_calls a m k hk hk5).mono ?_
  rintro e w' (⟨_, v, rfl, F', s', k', f', L⟩ | ⟨h, _⟩)
  · obtain ⟨ad, cap, hv⟩ := own_form L.r
    rw [show ((fr us).take k).length = k by rw [List.length_take]; have := hc.1; omega] at hv
    subst hv
    have hlb := lb_of a b c ⟨F', s', k', f'⟩
    refine ⟨ad, cap, rfl, ⟨F', s', hlb.1.bel, fun i hi => ?_⟩, L.r, hlb.2⟩
    rcases hi with ⟨d, rfl, rfl⟩ | hi
    · have h1 := World.ownsRow.lt L.r d.block rfl
      exact ⟨L.a d.block rfl, Nat.le_trans b.size h1.1, h1.2⟩
    · refine ⟨fun h2 => ?_, (c i hi).2.1, Nat.lt_of_lt_of_le (c i hi).2.2 k'.size⟩
      rcases f' i h2 with h3 | h3
      · exact (c i hi).1 h3
      · have := (c i hi).2.2; omega
  · exact absurd hc h
theorem LB.someBad {w0 w : World} {p : Nat} {us : List Bool} {left : Int} {G : Nat → Prop} (s : LB w0 p us left G w) (m : Int) (k : Nat) (hk : k = (max m 0).toNat) (hk5 : k ≤ 1000) (hc : ¬ canTake us left k) :
    Calls Try.prog 12 #[.pointer (some ⟨p, 0, none⟩), .int .i64 m] w fun e w' => e = .returned (.tuple #[.slice none 0 0, .int .i64 3]) ∧ (∃ i, i ≤ (fr us).length ∧ (left < 0 ∨ (i : Int) ≤ left) ∧ (i = (fr us).length ∨ (i : Int) = left) ∧ LB w0 p us (leftN left i) G w') ∧ Keep (fun i => ¬ G i) w w' := by
  obtain ⟨F, a, b, c⟩ := s
  refine (some_calls a m k hk hk5).mono ?_
  rintro e w' (⟨h, _⟩ | ⟨_, rfl, i, h1, h2, h3, h⟩)
  · exact absurd h hc
  · have hlb := lb_of a b c h
    exact ⟨rfl, ⟨i, h1, h2, h3, hlb.1⟩, hlb.2⟩
end Go.Proofs.Ytigeadiclajkjaa.Walks
