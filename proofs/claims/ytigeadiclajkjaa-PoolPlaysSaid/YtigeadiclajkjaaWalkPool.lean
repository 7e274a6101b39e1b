/- Walks through the functions of the statement, and the statement over them: each contract says what the call answers and that nothing else changes. -/
import Derived.Test.YtigeadiclajkjaaProg
import Derived.Laws.BytesString
import Derived.Test.YtigeadiclajkjaaBits
import Derived.Test.YtigeadiclajkjaaHeap
import Derived.Test.YtigeadiclajkjaaAid
import Derived.Lib.Hide
import Derived.Test.YtigeadiclajkjaaArr
import Derived.Test.YtigeadiclajkjaaEql
import Derived.Test.YtigeadiclajkjaaWalkHeap
import Derived.Test.YtigeadiclajkjaaWalkHeap2
import Derived.WalkKit
import Derived.WalkSpells
import Derived.WalkLawsBesides
import Derived.Deep.QuietTactic
import Derived.BigQuiet
import Derived.Deep.RegionHeld3
import Derived.Deep.DeepCutAuto
import Derived.Deep.CutBlock
import Derived.Lib.SlBytesConst
import Derived.StillTailTactics
import Derived.Laws.MakeOwn
import Derived.Deep.AppendLies
import Derived.Laws.CopyOwn
import Derived.Maps.AppendAt
import Derived.Deep.Upon
import Derived.Deep.AppendSrc
import Derived.RegionTactic
import Derived.Deep.RegionLaw
import Derived.Shelf.Abstract
namespace Go.Proofs.Ytigeadiclajkjaa.Walks
set_option linter.unusedVariables false
set_option linter.unusedSimpArgs false
open Go.RowKit Go.Proofs.Ytigeadiclajkjaa.Bits Go.Proofs.Ytigeadiclajkjaa.Heap Go.Proofs.Ytigeadiclajkjaa.Aid Go.Proofs.Ytigeadiclajkjaa.Arr Go.Proofs.Ytigeadiclajkjaa.Eql

/-- A pool: its blocks are among F, all of them made since B; which frames are in use; how many takes go well yet. -/
structure Pl (F : Nat → Prop) (B p : Nat) (us : List Bool) (left : Int) (w : World) : Prop where
  ex : ∃ vf vu h, Pv B p vf vu h us left w ∧ (∀ g, vf.ownBlock = some g → F g) ∧ (∀ g, vu.ownBlock = some g → F g) ∧ h.Perm (fr us) ∧ HeapN h h.length
  fp : F p
  lt : ∀ i, F i → i < w.heap.size
  ge : ∀ i, F i → B ≤ i
  n : us.length ≤ 512
  l0 : -1 ≤ left
  l1 : left ≤ 9223372036854775807
def PlK (F : Nat → Prop) (B p : Nat) (us : List Bool) (left : Int) (w w' : World) : Prop := ∃ F', Pl F' B p us left w' ∧ Keep F w w' ∧ ∀ i, F' i → F i ∨ w.heap.size ≤ i
theorem Pl.below {F : Nat → Prop} {B p : Nat} {us : List Bool} {left : Int} {w w' : World} (s : Pl F B p us left w) (hb : Below w.heap.size w w') : Pl F B p us left w' := by
  obtain ⟨vf, vu, h, a, b, c, d, e⟩ := s.ex
  exact ⟨⟨vf, vu, h, a.below hb, b, c, d, e⟩, s.fp, fun i hi => Nat.lt_of_lt_of_le (s.lt i hi) hb.size, s.ge, s.n, s.l0, s.l1⟩
theorem Pl.hB {F : Nat → Prop} {B p : Nat} {us : List Bool} {left : Int} {w : World} (s : Pl F B p us left w) : B ≤ w.heap.size := Nat.le_of_lt (Nat.lt_of_le_of_lt (s.ge p s.fp) (s.lt p s.fp))
/-- What other calls do: they leave the pool's blocks. -/
theorem Pl.keep {F S : Nat → Prop} {B p : Nat} {us : List Bool} {left : Int} {w w' : World} (s : Pl F B p us left w) (k : Keep S w w') (hs : ∀ i, F i → ¬ S i) : Pl F B p us left w' := by
  obtain ⟨vf, vu, h, a, b, c, d, e⟩ := s.ex
  exact ⟨⟨vf, vu, h, a.keep k (hs p s.fp) (fun g hg => hs g (b g hg)) (fun g hg => hs g (c g hg)), b, c, d, e⟩, s.fp, fun i hi => Nat.lt_of_lt_of_le (s.lt i hi) k.size, s.ge, s.n, s.l0, s.l1⟩
theorem PlK.trans {F F2 : Nat → Prop} {B p : Nat} {us : List Bool} {left : Int} {w w2 w3 : World} (k1 : Keep F w w2) (h1 : ∀ i, F2 i → F i ∨ w.heap.size ≤ i) (k : PlK F2 B p us left w2 w3) : PlK F B p us left w w3 := by
  obtain ⟨F3, a, b, c⟩ := k
  refine ⟨F3, a, k1.step b (fun i hi h2 => ?_), fun i hi => ?_⟩
  · rcases h1 i h2 with h | h
    · exact h
    · omega
  · rcases c i hi with h | h
    · exact h1 i h
    · exact .inr (Nat.le_trans k1.size h)
theorem Pl.self {F : Nat → Prop} {B p : Nat} {us : List Bool} {left : Int} {w : World} (s : Pl F B p us left w) : PlK F B p us left w w := ⟨F, s, Keep.refl _ w, fun i hi => .inl hi⟩
theorem Pv.setL {B p : Nat} {vf vu : Value} {h : List Nat} {us : List Bool} {left : Int} {w : World} (s : Pv B p vf vu h us left w) (l : Int) : Pv B p vf vu h us l (w.setCell ⟨p, 2, none⟩ (.int .i64 l)) := by
  have k : Keep (fun i => i = p) w (w.setCell ⟨p, 2, none⟩ (.int .i64 l)) := Keep.setCell (S := fun i => i = p) (Keep.refl _ w) (p := ⟨p, 2, none⟩) (fun _ => rfl) _
  exact ⟨s.c.set 2 _, sl_keep s.rf k (fun g e e2 => s.nf (by rw [e, e2])), sl_keep s.ru k (fun g e e2 => s.nu (by rw [e, e2])), s.nf, s.nu, s.nn⟩
theorem Pv.setU {B p gu cap : Nat} {vf : Value} {h : List Nat} {us : List Bool} {left : Int} {w : World} (s : Pv B p vf (.slice (some ⟨gu, 0, none⟩) us.length cap) h us left w) {x : Nat} (hx : x < us.length) (b : Bool) :
    Pv B p vf (.slice (some ⟨gu, 0, none⟩) us.length cap) h (us.set x b) left (w.setCell ⟨gu, x, none⟩ (.bool b)) := by
  have k : Keep (fun i => i = gu) w (w.setCell ⟨gu, x, none⟩ (.bool b)) := Keep.setCell (S := fun i => i = gu) (Keep.refl _ w) (p := ⟨gu, x, none⟩) (fun _ => rfl) _
  have hg : gu ≠ p := fun e => s.nu (by rw [e]; rfl)
  have r := owns_set s.ru hx (.bool b)
  rw [← List.map_set] at r
  refine ⟨s.c.keep k (Ne.symm hg), sl_keep s.rf k (fun g e e2 => s.nn g e (by rw [e2]; rfl)), ?_, s.nf, s.nu, s.nn⟩
  rw [List.length_set]
  exact r
/-- The row of truths, laid open. -/
theorem Pv.rowU {B p : Nat} {vf vu : Value} {h : List Nat} {us : List Bool} {left : Int} {w : World} (s : Pv B p vf vu h us left w) (h0 : 0 < us.length) :
    ∃ g cap, vu = .slice (some ⟨g, 0, none⟩) us.length cap ∧ g ≠ p ∧ B ≤ g ∧ (∀ i b, us[i]? = some b → w.cell? ⟨g, i, none⟩ = some (.bool b)) ∧ ∀ i, w.frozen? ⟨g, i, none⟩ = false := by
  obtain ⟨g, cap, sp, hv, a, b, c, d⟩ := sl_form s.ru h0
  refine ⟨g, cap, hv, fun e => s.nu (by rw [hv, e]; rfl), a, fun i b hb => ?_, fun i => d.unfrozen i⟩
  refine d.cellAt ?_
  have hi : i < us.length := by
    rcases Nat.lt_or_ge i us.length with h1 | h1
    · exact h1
    · rw [List.getElem?_eq_none h1] at hb; cases hb
  rw [List.getElem?_append_left (by simpa using hi), List.getElem?_map, hb]
  rfl
theorem take_fin {F : Nat → Prop} {B p gu cap x : Nat} {vf vf' : Value} {h : List Nat} {us : List Bool} {left l' : Int} {w w2 w3 : World} (s : Pl F B p us left w) (hF : ∀ g, vf.ownBlock = some g → F g) (hG : F gu) (k2 : Keep (fun i => i = p) w w2) (hp : h.Perm (fr us)) (hh : HeapN h h.length) (hx : h.getD 0 0 = x) (h0 : 0 < h.length) (hl : x < us.length)
    (o3 : vf'.ownBlock = vf.ownBlock) (P3 : Pv B p vf' (.slice (some ⟨gu, 0, none⟩) us.length cap) (popL h) us l' w3) (k3 : Keep (fun i => i = p ∨ vf.ownBlock = some i) w2 w3) (hl0 : -1 ≤ l') (hl1 : l' ≤ 9223372036854775807) :
    PlK F B p (us.set x true) l' w (w3.setCell ⟨gu, x, none⟩ (.bool true)) := by
  have k4 : Keep F w3 (w3.setCell ⟨gu, x, none⟩ (.bool true)) := Keep.setCell (S := F) (Keep.refl _ w3) (p := ⟨gu, x, none⟩) (fun _ => hG) _
  have k : Keep F w (w3.setCell ⟨gu, x, none⟩ (.bool true)) := ((k2.mono (fun i _ e => by rw [e]; exact s.fp)).trans (k3.mono (fun i _ e => e.elim (fun e => by rw [e]; exact s.fp) (hF i)))).trans k4
  refine ⟨F, ⟨⟨vf', _, popL h, P3.setU hl true, fun g e => hF g (by rw [← o3]; exact e), fun g e => by injection e with e; rw [← e]; exact hG, ?_, popL_heap h hh⟩, s.fp, fun i hi => Nat.lt_of_lt_of_le (s.lt i hi) k.size, s.ge, by rw [List.length_set]; exact s.n, hl0, hl1⟩, k, fun i hi => .inl hi⟩
  rw [← hx]
  exact pop_free hp h0
def decL (l : Int) : Int := if l - 1 < -1 then -1 else l - 1
theorem decL_ge (l : Int) : -1 ≤ decL l := by unfold decL; split <;> omega
theorem decL_le (l : Int) (h : l ≤ 9223372036854775807) : decL l ≤ 9223372036854775807 := by unfold decL; split <;> omega
def TakeP (F : Nat → Prop) (B p : Nat) (us : List Bool) (left : Int) (w : World) (x : Nat) (e : Ending) (w' : World) : Prop := e = .returned (.tuple #[.int .i64 (x : Int), .int .i64 0]) ∧ PlK F B p (us.set x true) (decL left) w w'
set_option maxHeartbeats 4000000 in
theorem take_bad {F : Nat → Prop} {B p : Nat} {us : List Bool} {left : Int} {w : World} (s : Pl F B p us left w) (hb : left = 0 ∨ fr us = []) :
    Calls Try.prog 11 #[.pointer (some ⟨p, 0, none⟩)] w fun e w' => e = .returned (.tuple #[.int .i64 0, .int .i64 3]) ∧ w' = w := by
  obtain ⟨vf, vu, h, P, hF, hG, hp, hh⟩ := s.ex
  have c0 := P.c.cellAt (i := 0) rfl
  have c2 := P.c.cellAt (i := 2) rfl
  obtain ⟨a, cap, hv⟩ := own_form P.rf
  subst hv
  have hl := hp.length_eq
  by_cases h0 : left = 0
  · subst h0
    clear hb P s hh hp hF hG hl
    go_enter Try.func11, Try.ntmps11
    go_wp2
    go_ret2
    exact ⟨rfl, rfl⟩
  · have hn : h.length = 0 := by
      rcases hb with h | h
      · exact absurd h h0
      · rw [hl, h]; rfl
    rw [hn] at c0
    clear hb P s hh hp hF hG hl hn
    go_enter Try.func11, Try.ntmps11
    go_wp2
    go_ret2
    exact ⟨rfl, rfl⟩
set_option maxHeartbeats 4000000 in
theorem take_calls {F : Nat → Prop} {B p x : Nat} {r : List Nat} {us : List Bool} {left : Int} {w : World} (s : Pl F B p us left w) (h0 : left ≠ 0) (hx : fr us = x :: r) :
    Calls Try.prog 11 #[.pointer (some ⟨p, 0, none⟩)] w (TakeP F B p us left w x) := by
  obtain ⟨vf, vu, h, P, hF, hG, hp, hh⟩ := s.ex
  have c0 := P.c.cellAt (i := 0) rfl
  have c2 := P.c.cellAt (i := 2) rfl
  have f2 := P.c.unfrozen 2
  obtain ⟨a, cap, hv⟩ := own_form P.rf
  subst hv
  have hl := hp.length_eq
  have hn : 0 < h.length := by rw [hl, hx]; simp
  have hn2 : ¬ h.length = 0 := by omega
  have hnl : h.length ≤ 512 := by have := fr_length_le us; have := s.n; omega
  have hhead := heap_head hp hh hx
  have hxu : us[x]? = some false := fr_mem.1 (by rw [hx]; simp)
  have hxl : x < us.length := by
    rcases Nat.lt_or_ge x us.length with h1 | h1
    · exact h1
    · rw [List.getElem?_eq_none h1] at hxu; cases hxu
  obtain ⟨gu, cu, rfl, hgp, hgB, hcu, hfu⟩ := P.rowU (by omega)
  have hPop := Lib.hid (hpop_calls (P.setL (decL left)) hn (by omega))
  rw [hhead] at hPop
  have FF := Lib.hid (fun (vf' : Value) (w3 : World) o3 P3 k3 => take_fin (l' := decL left) (cap := cu) (w3 := w3) (vf' := vf') s hF (hG gu rfl) (Keep.setCell (S := fun i => i = p) (Keep.refl _ w) (p := ⟨p, 2, none⟩) (fun _ => rfl) (.int .i64 (decL left))) hp hh hhead hn hxl o3 P3 k3 (decL_ge _) (decL_le _ s.l1))
  have CU := Lib.hid (fun (vf' : Value) (w3 : World) (P3 : Pv B p vf' (.slice (some ⟨gu, 0, none⟩) us.length cu) (popL h) us (decL left) w3) => And.intro (P3.c.cellAt (i := 1) rfl) (P3.rowU (by omega)))
  have HXU := Lib.hid hxu
  have hl0 := s.l0
  have hl1 := s.l1
  have hxi : (x : Int) < (us.length : Int) := by omega
  have hui : (us.length : Int) ≤ 512 := by have := s.n; omega
  have g1 : (left == 0) = false := by simpa using h0
  have g2 : ((h.length : Int) == 0) = false := by rw [beq_eq_false_iff_ne]; omega
  clear hp hh hF hG hx hhead hxu hcu hfu hl P s
  go_enter Try.func11, Try.ntmps11
  go_upto_region 6 with (fail)
  rw [show (if left - 1 < -1 then (-1 : Int) else left - 1) = decL left from rfl]
  generalize hw2 : w.setCell ⟨p, 2, none⟩ (.int .i64 (decL left)) = w2 at *
  have TA := fun W => assert_int (x : Int) W
  go_upto_region 7 with (go_at_call 18; refine hPop.out.mono ?_; rintro e w3 ⟨rfl, vf', o3, P3, K3⟩; have F3 := Lib.hid (FF.out vf' w3 o3 P3 K3); have C3 := Lib.hid (CU.out vf' w3 P3); clear o3 P3 K3)
  obtain ⟨cu1, gu2, cu2, hv2, _, _, cX, fX⟩ := C3.out
  injection hv2 with hv3 _ hv4
  injection hv3 with hv3
  injection hv3 with hv3
  subst hv3; subst hv4
  have cx := cX _ _ HXU.out
  have fx := fX x
  clear hPop FF CU C3 cX fX
  go_wp2
  go_ret2
  exact ⟨rfl, F3.out⟩
set_option maxHeartbeats 4000000 in
theorem give_arg {F : Nat → Prop} {B p : Nat} {us : List Bool} {left : Int} {w : World} (s : Pl F B p us left w) (x : Int) (hx : x < 0 ∨ (us.length : Int) ≤ x) :
    Calls Try.prog 13 #[.pointer (some ⟨p, 0, none⟩), .int .i64 x] w fun e w' => e = .returned (.int .i64 1) ∧ w' = w := by
  obtain ⟨vf, vu, h, P, hF, hG, hp, hh⟩ := s.ex
  have c1 := P.c.cellAt (i := 1) rfl
  obtain ⟨a, cap, hv⟩ := own_form P.ru
  subst hv
  have hui : (us.length : Int) ≤ 512 := by have := s.n; omega
  by_cases h0 : x < 0
  · clear P s hh hp hF hG hx
    go_enter Try.func13, Try.ntmps13
    go_wp2
    go_ret
    exact ⟨rfl, rfl⟩
  · have h1 : (us.length : Int) ≤ x := by omega
    clear P s hh hp hF hG hx
    go_enter Try.func13, Try.ntmps13
    go_wp2
    go_ret
    exact ⟨rfl, rfl⟩
theorem some_lt' {α : Type} {l : List α} {i : Nat} {x : α} (h : l[i]? = some x) : i < l.length := by
  rcases Nat.lt_or_ge i l.length with h1 | h1
  · exact h1
  · rw [List.getElem?_eq_none h1] at h; cases h
set_option maxHeartbeats 4000000 in
theorem give_used {F : Nat → Prop} {B p : Nat} {us : List Bool} {left : Int} {w : World} (s : Pl F B p us left w) (x : Nat) (hx : us[x]? = some false) :
    Calls Try.prog 13 #[.pointer (some ⟨p, 0, none⟩), .int .i64 (x : Int)] w fun e w' => e = .returned (.int .i64 8) ∧ w' = w := by
  obtain ⟨vf, vu, h, P, hF, hG, hp, hh⟩ := s.ex
  have c1 := P.c.cellAt (i := 1) rfl
  have hl := some_lt' hx
  obtain ⟨gu, cu, rfl, hgp, hgB, hcu, hfu⟩ := P.rowU (by omega)
  have cx := hcu _ _ hx
  have hui : (us.length : Int) ≤ 512 := by have := s.n; omega
  have hxi : (x : Int) < (us.length : Int) := by omega
  clear P s hh hp hF hG hx hcu hfu
  go_enter Try.func13, Try.ntmps13
  go_wp2
  go_ret
  exact ⟨rfl, rfl⟩
theorem give_fin {F : Nat → Prop} {B p gu cap x : Nat} {vf vf' : Value} {h : List Nat} {us : List Bool} {left : Int} {w w3 : World} (s : Pl F B p us left w) (hF : ∀ g, vf.ownBlock = some g → F g) (hG : F gu) (hp : h.Perm (fr us)) (hh : HeapN h h.length) (hx : us[x]? = some true)
    (o3 : ∀ g, vf'.ownBlock = some g → vf.ownBlock = some g ∨ (w.setCell ⟨gu, x, none⟩ (.bool false)).heap.size ≤ g) (P3 : Pv B p vf' (.slice (some ⟨gu, 0, none⟩) us.length cap) (pushL h x) (us.set x false) left w3) (k3 : Keep (fun i => i = p ∨ vf.ownBlock = some i) (w.setCell ⟨gu, x, none⟩ (.bool false)) w3) :
    PlK F B p (us.set x false) left w w3 := by
  have k2 : Keep F w (w.setCell ⟨gu, x, none⟩ (.bool false)) := Keep.setCell (S := F) (Keep.refl _ w) (p := ⟨gu, x, none⟩) (fun _ => hG) _
  have k : Keep F w w3 := k2.trans (k3.mono (fun i _ e => e.elim (fun e => by rw [e]; exact s.fp) (hF i)))
  have sz := k2.size
  have sz3 := k3.size
  refine ⟨fun i => F i ∨ vf'.ownBlock = some i, ⟨⟨vf', _, pushL h x, P3, fun g e => .inr e, fun g e => .inl (by injection e with e; rw [← e]; exact hG), push_free hp hx, pushL_heap h x hh⟩, .inl s.fp, fun i hi => ?_, fun i hi => ?_, by rw [List.length_set]; exact s.n, s.l0, s.l1⟩, k, fun i hi => ?_⟩
  · rcases hi with hi | hi
    · exact Nat.lt_of_lt_of_le (s.lt i hi) k.size
    · exact (World.ownsRow.lt P3.rf i hi).2
  · rcases hi with hi | hi
    · exact s.ge i hi
    · exact own_ge P3.rf i hi
  · rcases hi with hi | hi
    · exact .inl hi
    · rcases o3 i hi with h | h
      · exact .inl (hF i h)
      · exact .inr (Nat.le_trans sz h)
set_option maxHeartbeats 4000000 in
theorem give_calls {F : Nat → Prop} {B p : Nat} {us : List Bool} {left : Int} {w : World} (s : Pl F B p us left w) (x : Nat) (hx : us[x]? = some true) :
    Calls Try.prog 13 #[.pointer (some ⟨p, 0, none⟩), .int .i64 (x : Int)] w fun e w' => e = .returned (.int .i64 0) ∧ PlK F B p (us.set x false) left w w' := by
  obtain ⟨vf, vu, h, P, hF, hG, hp, hh⟩ := s.ex
  have c1 := P.c.cellAt (i := 1) rfl
  have hl := some_lt' hx
  obtain ⟨gu, cu, rfl, hgp, hgB, hcu, hfu⟩ := P.rowU (by omega)
  have cx := hcu _ _ hx
  have fx := hfu x
  have hui : (us.length : Int) ≤ 512 := by have := s.n; omega
  have hxi : (x : Int) < (us.length : Int) := by omega
  have hnl : h.length ≤ 512 := by have := fr_length_le us; have := hp.length_eq; have := s.n; omega
  have PU := P.setU hl false
  have c1' := PU.c.cellAt (i := 1) rfl
  have hPush := Lib.hid (hpush_calls PU (by have := s.hB; simp; omega) x (by have := s.n; omega) (by omega))
  have FF := Lib.hid (fun (vf' : Value) (w3 : World) o3 P3 k3 => give_fin (w3 := w3) (vf' := vf') (cap := cu) s hF (hG gu rfl) hp hh hx o3 P3 k3)
  clear P s hh hp hF hG hx hcu hfu PU
  go_enter Try.func13, Try.ntmps13
  go_upto_region 8 with (fail)
  go_upto_region 9 with (go_at_call 19; refine hPush.out.mono ?_; rintro e w3 ⟨rfl, vf', o3, P3, K3⟩; have F3 := Lib.hid (FF.out vf' w3 o3 P3 K3); clear o3 P3 K3)
  go_wp2
  go_ret
  exact ⟨rfl, F3.out⟩
set_option maxHeartbeats 4000000 in
theorem used_out {F : Nat → Prop} {B p : Nat} {us : List Bool} {left : Int} {w : World} (s : Pl F B p us left w) (x : Int) (hx : x < 0 ∨ (us.length : Int) ≤ x) :
    Calls Try.prog 14 #[.pointer (some ⟨p, 0, none⟩), .int .i64 x] w fun e w' => e = .returned (.bool false) ∧ w' = w := by
  obtain ⟨vf, vu, h, P, hF, hG, hp, hh⟩ := s.ex
  have c1 := P.c.cellAt (i := 1) rfl
  obtain ⟨a, cap, hv⟩ := own_form P.ru
  subst hv
  have hui : (us.length : Int) ≤ 512 := by have := s.n; omega
  by_cases h0 : x < 0
  · clear P s hh hp hF hG hx
    go_enter Try.func14, Try.ntmps14
    go_wp2
    go_ret
    exact ⟨rfl, rfl⟩
  · have h1 : (us.length : Int) ≤ x := by omega
    have h2 : 0 ≤ x := by omega
    clear P s hh hp hF hG hx
    go_enter Try.func14, Try.ntmps14
    go_wp2
    go_ret
    exact ⟨rfl, rfl⟩
set_option maxHeartbeats 4000000 in
theorem used_calls {F : Nat → Prop} {B p : Nat} {us : List Bool} {left : Int} {w : World} (s : Pl F B p us left w) (x : Nat) (b : Bool) (hx : us[x]? = some b) :
    Calls Try.prog 14 #[.pointer (some ⟨p, 0, none⟩), .int .i64 (x : Int)] w fun e w' => e = .returned (.bool b) ∧ w' = w := by
  obtain ⟨vf, vu, h, P, hF, hG, hp, hh⟩ := s.ex
  have c1 := P.c.cellAt (i := 1) rfl
  have hl := some_lt' hx
  obtain ⟨gu, cu, rfl, hgp, hgB, hcu, hfu⟩ := P.rowU (by omega)
  have cx := hcu _ _ hx
  have hui : (us.length : Int) ≤ 512 := by have := s.n; omega
  have hxi : (x : Int) < (us.length : Int) := by omega
  clear P s hh hp hF hG hx hcu hfu
  go_enter Try.func14, Try.ntmps14
  go_wp2
  go_ret
  exact ⟨rfl, rfl⟩
set_option maxHeartbeats 4000000 in
theorem left_calls {F : Nat → Prop} {B p : Nat} {us : List Bool} {left : Int} {w : World} (s : Pl F B p us left w) :
    Calls Try.prog 10 #[.pointer (some ⟨p, 0, none⟩)] w fun e w' => e = .returned (.int .i64 ((fr us).length : Int)) ∧ w' = w := by
  obtain ⟨vf, vu, h, P, hF, hG, hp, hh⟩ := s.ex
  have c0 := P.c.cellAt (i := 0) rfl
  obtain ⟨a, cap, hv⟩ := own_form P.rf
  subst hv
  rw [hp.length_eq] at c0
  clear P s hh hp hF hG
  generalize (fr us).length = n at *
  go_enter Try.func10, Try.ntmps10
  go_wp2
  go_ret
  exact ⟨rfl, rfl⟩
def failL (m : Int) : Int := if m < -1 then -1 else m
set_option maxHeartbeats 4000000 in
theorem fail_calls {F : Nat → Prop} {B p : Nat} {us : List Bool} {left : Int} {w : World} (s : Pl F B p us left w) (m : Int) (hm : m ≤ 9223372036854775807) :
    Calls Try.prog 15 #[.pointer (some ⟨p, 0, none⟩), .int .i64 m] w fun e w' => e = .returned (.tuple #[]) ∧ Pl F B p us (failL m) w' ∧ Keep F w w' := by
  obtain ⟨vf, vu, h, P, hF, hG, hp, hh⟩ := s.ex
  have c2 := P.c.cellAt (i := 2) rfl
  have f2 := P.c.unfrozen 2
  have k2 : Hid (Keep F w (w.setCell ⟨p, 2, none⟩ (.int .i64 (failL m)))) := Keep.setCell (S := F) (Keep.refl _ w) (p := ⟨p, 2, none⟩) (fun _ => s.fp) _
  have R : Hid (Pl F B p us (failL m) (w.setCell ⟨p, 2, none⟩ (.int .i64 (failL m)))) := ⟨⟨vf, vu, h, P.setL _, hF, hG, hp, hh⟩, s.fp, fun i hi => Nat.lt_of_lt_of_le (s.lt i hi) k2.out.size, s.ge, s.n, by unfold failL; split <;> omega, by unfold failL; split <;> omega⟩
  clear P s hh hp hF hG
  by_cases hlt : m < -1
  · have e : failL m = -1 := by unfold failL; rw [if_pos hlt]
    rw [e] at k2 R ⊢
    go_enter Try.func15, Try.ntmps15
    go_wp2
    go_end0
    exact ⟨rfl, R.out, k2.out⟩
  · have e : failL m = m := by unfold failL; rw [if_neg hlt]
    rw [e] at k2 R ⊢
    go_enter Try.func15, Try.ntmps15
    go_wp2
    go_end0
    exact ⟨rfl, R.out, k2.out⟩
end Go.Proofs.Ytigeadiclajkjaa.Walks
