/- Walks through the functions of the statement, and the statement over them: each contract says what the call answers and that nothing else changes. -/
import Derived.Test.YtjlodddlbgpcdaaDoorProg
import Derived.Test.YtjlodddlbgpcdaaDoorBits
import Derived.Test.YtjlodddlbgpcdaaDoorHeap
import Derived.Test.YtjlodddlbgpcdaaDoorAid
import Derived.Test.YtjlodddlbgpcdaaDoorArr
import Derived.Test.YtjlodddlbgpcdaaDoorEql
import Derived.Test.YtjlodddlbgpcdaaDoorWalkBase
import Derived.Test.YtjlodddlbgpcdaaDoorWalkCode
import Derived.Test.YtjlodddlbgpcdaaDoorWalkSeat
import Derived.Test.YtjlodddlbgpcdaaDoorWalkRef
import Derived.Test.YtjlodddlbgpcdaaDoorWalkRefR
import Derived.Lib.Hide
import Derived.WalkKit
import Derived.WalkSpells
import Derived.WalkLawsBesides
import Derived.Deep.QuietTactic
import Derived.BigQuiet
import Derived.Deep.RegionHeld3
import Derived.Deep.DeepCutAuto
import Derived.Deep.CutBlock
import Derived.Lib.SlBytesConst
import Derived.StillTailTactics
import Derived.RegionTactic
import Derived.Deep.RegionLaw
import Derived.Laws.BytesString
import Derived.Laws.MakeOwn
import Derived.Deep.AppendLies
import Derived.Laws.CopyOwn
import Derived.Maps.AppendAt
import Derived.Deep.Upon
import Derived.Deep.AppendSrc
import Derived.Shelf.Abstract
import Derived.Shelf.Spec.TrailingZeros
namespace Go.Proofs.YtjlodddlbgpcdaaDoor.Walks
set_option linter.unusedVariables false
set_option linter.unusedSimpArgs false
open Go.RowKit Go.Proofs.YtjlodddlbgpcdaaDoor.Bits Go.Proofs.YtjlodddlbgpcdaaDoor.Heap Go.Proofs.YtjlodddlbgpcdaaDoor.Aid Go.Proofs.YtjlodddlbgpcdaaDoor.Arr Go.Proofs.YtjlodddlbgpcdaaDoor.Eql

/-- One cell of a row that the call owns. -/
theorem owns_set {w : World} {base n cap g : Nat} {e : TypeId} {xs : List Value} (h : w.ownsRow base e 1 (.slice (some ⟨g, 0, none⟩) n cap) n xs) {i : Nat} (hi : i < n) (v : Value) : (w.setCell ⟨g, i, none⟩ v).ownsRow base e 1 (.slice (some ⟨g, 0, none⟩) n cap) n (xs.set i v) := by
  obtain ⟨h1, h2⟩ := h
  refine ⟨by simpa using h1, .inr ?_⟩
  rcases h2 with ⟨hv, _⟩ | ⟨g', cap', cur, hv, hb, hg, hc, hm, hs, ht⟩
  · cases hv
  · injection hv with hv1 _ hv3
    injection hv1 with hv1
    injection hv1 with hv1
    subst hv1; subst hv3
    have hk : Blk w g cur.toList e := by unfold Blk; simpa using hg
    have hk2 := hk.set i v
    refine ⟨g, cap, (cur.toList.set i v).toArray, rfl, hb, by unfold Blk at hk2; exact hk2, hc, hm, by simpa using hs, ?_⟩
    rw [Nat.mul_one] at ht ⊢
    show ((cur.toList.set i v).toArray.toList).take n = _
    rw [List.toList_toArray, List.take_set, ht]
/-- A guest's memory: the bytes of each page (none, or 256), and which may be written. -/
structure Me where
  p : Nat → List Nat
  w : Nat → Bool
/-- A memory of the statement's own: its block, and its pages' slices. -/
structure Mm (B mb : Nat) (pv : Nat → Value) (M : Me) (W : World) : Prop where
  c : Blk W mb ((List.range 32).map pv ++ (List.range 32).map fun i => .bool (M.w i)) 47
  r : ∀ i, i < 32 → W.ownsRow B 5 1 (pv i) (M.p i).length ((M.p i).map enc8)
  l : ∀ i, i < 32 → (M.p i).length = 0 ∨ (M.p i).length = 256
  x : ∀ i, ∀ y ∈ M.p i, y < 256
  nm : ∀ i, i < 32 → (pv i).ownBlock ≠ some mb
  nn : ∀ i j g, i < 32 → j < 32 → i ≠ j → (pv i).ownBlock = some g → (pv j).ownBlock ≠ some g
  b : B ≤ mb
/-- Its blocks. -/
def Mm.F (mb : Nat) (pv : Nat → Value) (g : Nat) : Prop := g = mb ∨ ∃ i, i < 32 ∧ (pv i).ownBlock = some g
theorem Mm.keep {B mb : Nat} {pv : Nat → Value} {M : Me} {w w' : World} {S : Nat → Prop} (s : Mm B mb pv M w) (k : Keep S w w') (hs : ∀ g, Mm.F mb pv g → ¬ S g) : Mm B mb pv M w' :=
  ⟨s.c.keep k (hs mb (.inl rfl)), fun i hi => sl_keep (s.r i hi) k (fun g e => hs g (.inr ⟨i, hi, e⟩)), s.l, s.x, s.nm, s.nn, s.b⟩
theorem Mm.below {B mb : Nat} {pv : Nat → Value} {M : Me} {w w' : World} (s : Mm B mb pv M w) (hb : Below w.heap.size w w') : Mm B mb pv M w' :=
  s.keep (S := fun _ => False) (Keep.of_below hb) (fun _ _ h => h)
theorem Mm.cell {B mb : Nat} {pv : Nat → Value} {M : Me} {w : World} (s : Mm B mb pv M w) {i : Nat} (hi : i < 32) : w.cell? ⟨mb, i, none⟩ = some (pv i) :=
  s.c.cellAt (by rw [List.getElem?_append_left (by simpa using hi), List.getElem?_map, List.getElem?_range hi]; rfl)
theorem Mm.cellW {B mb : Nat} {pv : Nat → Value} {M : Me} {w : World} (s : Mm B mb pv M w) {i : Nat} (hi : i < 32) : w.cell? ⟨mb, 32 + i, none⟩ = some (.bool (M.w i)) :=
  s.c.cellAt (by rw [List.getElem?_append_right (by simp), List.length_map, List.length_range, Nat.add_sub_cancel_left, List.getElem?_map, List.getElem?_range hi]; rfl)
theorem Mm.none {B mb : Nat} {pv : Nat → Value} {M : Me} {w : World} (s : Mm B mb pv M w) {i : Nat} (hi : i < 32) (hp : M.p i = []) : ∃ a cap, pv i = .slice a 0 cap := by
  have h := s.r i hi
  rw [hp] at h
  rcases h.2 with ⟨hv, _⟩ | ⟨g, cap, _, hv, _⟩
  · exact ⟨Option.none, 0, hv⟩
  · exact ⟨_, cap, hv⟩
theorem Mm.page {B mb : Nat} {pv : Nat → Value} {M : Me} {w : World} (s : Mm B mb pv M w) {i : Nat} (hi : i < 32) (hp : (M.p i).length = 256) : ∃ g cap sp, pv i = .slice (some ⟨g, 0, Option.none⟩) 256 cap ∧ B ≤ g ∧ 256 ≤ cap ∧ cap ≤ maxLen ∧ Blk w g ((M.p i).map enc8 ++ sp) 5 := by
  have h := s.r i hi
  rw [hp] at h
  exact sl_form h (by decide)
/-- n bytes of a page from one on. -/
def Me.seg (M : Me) (i off n : Nat) : List Nat := ((M.p i).drop off).take n
theorem Me.seg_none {M : Me} {i off n : Nat} (hp : M.p i = []) : M.seg i off n = [] := by unfold Me.seg; rw [hp]; simp
theorem Mm.seg_lt {B mb : Nat} {pv : Nat → Value} {M : Me} {w : World} (s : Mm B mb pv M w) (i off n : Nat) : ∀ x ∈ M.seg i off n, x < 256 := fun x hx => s.x i x (List.mem_of_mem_drop (List.mem_of_mem_take hx))
theorem Mm.two {B mb : Nat} {pv : Nat → Value} {M : Me} {w : World} (s : Mm B mb pv M w) {i : Nat} (hi : i < 32) : M.p i = [] ∨ (M.p i).length = 256 := by
  rcases s.l i hi with h | h
  · exact .inl (List.eq_nil_of_length_eq_zero h)
  · exact .inr h
/-- What the reference's Load says. -/
def RefLoadP (M : Me) (i off n : Nat) (w : World) (e : Ending) (w' : World) : Prop := w' = w ∧ ∃ v, e = .returned (.tuple #[v, .bool (decide (M.p i ≠ []))]) ∧ Row w enc8 v (M.seg i off n)
set_option maxHeartbeats 2000000 in
theorem refLoad_calls {B mb : Nat} {pv : Nat → Value} {M : Me} {w : World} (s : Mm B mb pv M w) (i off n : Nat) (hi : i < 32) (ho : off + n ≤ 256) (h2 : off < 256) :
    Calls Tryd.prog 46 #[.pointer (some ⟨mb, 0, none⟩), .int .i64 (i : Int), .int .i64 (off : Int), .int .i64 (n : Int)] w (RefLoadP M i off n w) := by
  have hii : (i : Int) ≤ 31 := by omega
  have hoi : (off : Int) + (n : Int) ≤ 256 := by omega
  have hoi0 : 0 ≤ (off : Int) := by omega
  have h2i : (off : Int) ≤ 255 := by omega
  have hni0 : 0 ≤ (n : Int) := by omega
  have c0 := s.cell hi
  rcases s.two hi with hp | hp
  · obtain ⟨a, cap, hv⟩ := s.none hi hp
    rw [hv] at c0
    have R : Hid (RefLoadP M i off n w (.returned (.tuple #[.slice none 0 0, .bool false])) w) := ⟨rfl, _, by rw [hp]; rfl, by rw [Me.seg_none hp]; exact Row.nil w _⟩
    clear hv s hp
    go_enter Tryd.func46, Tryd.ntmps46
    go_wp2
    go_ret2
    exact R.out
  · obtain ⟨g, cap, sp, hv, _, hc, hm, hb⟩ := s.page hi hp
    rw [hv] at c0
    have hci : (256 : Int) ≤ (cap : Int) := by omega
    have hci2 : (cap : Int) ≤ 9223372036854775807 := by unfold maxLen at hm; omega
    have R : Hid (RefLoadP M i off n w (.returned (.tuple #[.slice (some ⟨g, off, none⟩) n (cap - off), .bool true])) w) := by
      have hne : M.p i ≠ [] := fun e => by rw [e] at hp; cases hp
      have hl : (M.seg i off n).length = n := by unfold Me.seg; rw [List.length_take, List.length_drop, hp]; omega
      have HR : Row w enc8 (.slice (some ⟨g, off, Option.none⟩) n (cap - off)) (M.seg i off n) := by
        refine .inr ⟨⟨g, off, Option.none⟩, cap - off, by rw [hl], by rw [hl]; omega, fun j x hj => ?_⟩
        exact bytes_at hb off n j _ (by unfold Me.seg at hj; rw [List.getElem?_map, hj]; rfl)
      exact ⟨rfl, _, by rw [decide_eq_true hne], HR⟩
    clear hv s hp hb
    go_enter Tryd.func46, Tryd.ntmps46
    go_wp2
    simp only [Nat.add_sub_cancel_left]
    go_ret2
    exact R.out
/-- What the memory says when it is asked for bytes. -/
def BusP (M : Me) (i off n : Nat) (w : World) (e : Ending) (w' : World) : Prop := Below w.heap.size w w' ∧ ∃ v, e = .returned (.tuple #[v, .int .i64 (if M.p i = [] then 11 else 0)]) ∧ Row w' enc8 v (M.seg i off n)
set_option maxRecDepth 8000 in
set_option maxHeartbeats 2000000 in
theorem busLoad_calls {B mb : Nat} {pv : Nat → Value} {M : Me} {w : World} (s : Mm B mb pv M w) (i off n : Nat) (hi : i < 32) (ho : off + n ≤ 256) (h2 : off < 256) :
    Calls Tryd.prog 69 #[.agg #[.pointer (some ⟨mb, 0, none⟩)], .int .i64 (i : Int), .int .i64 (off : Int), .int .i64 (n : Int)] w (BusP M i off n w) := by
  obtain ⟨ii, hii, hz, hs, hb⟩ := byte_info
  have HI := Lib.hid hii
  have HZ := Lib.hid hz
  have HSz := Lib.hid hs
  have HBy := Lib.hid hb
  clear hii hz hs hb
  have hii : (i : Int) ≤ 31 := by omega
  have hoi : (off : Int) + (n : Int) ≤ 256 := by omega
  have hoi0 : 0 ≤ (off : Int) := by omega
  have h2i : (off : Int) ≤ 255 := by omega
  have hni0 : 0 ≤ (n : Int) := by omega
  have hi0 : 0 ≤ (i : Int) := by omega
  have L := Lib.hid (fun W (h : Below w.heap.size w W) => refLoad_calls (s.below h) i off n hi ho h2)
  have S := Lib.hid s
  have hn : n ≤ 256 := by omega
  clear s ho
  generalize (off : Int) = offi at *
  generalize (n : Int) = ni at *
  have hoi2 : offi ≤ 256 := by omega
  have hni2 : ni ≤ 256 - offi := by omega
  go_enter Tryd.func69, Tryd.ntmps69
  go_upto_region 3 with (fail)
  have B1 := Lib.hid (show Below w.heap.size w (w.alloc (.cells #[.pointer (some ⟨mb, 0, none⟩)] 54)) from (Below.refl _ _).alloc (Nat.le_refl _) _)
  have LL := Lib.hid (L.out _ B1.out)
  generalize hw1 : w.alloc (.cells #[.pointer (some ⟨mb, 0, none⟩)] 54) = w1 at *
  have c1 : w1.cell? ⟨w.heap.size, 0, none⟩ = some (.pointer (some ⟨mb, 0, none⟩)) := by rw [← hw1]; exact (Blk.new w #[.pointer (some ⟨mb, 0, none⟩)] 54).cellAt rfl
  clear hw1 L
  rw [show RefLoadP M i off n w1 = fun e w' => w' = w1 ∧ ∃ v, e = .returned (.tuple #[v, .bool (decide (M.p i ≠ []))]) ∧ Row w1 enc8 v (M.seg i off n) from rfl] at LL
  by_cases hp : M.p i = []
  · rw [decide_eq_false (fun h => h hp)] at LL
    go_upto_region 4 with (go_at_call 46; refine LL.out.mono ?_; rintro e w2 ⟨rfl, v, rfl, hr⟩)
    clear LL c1
    have F : Hid (BusP M i off n w (.returned (.tuple #[.slice none 0 0, .int .i64 11])) w2) := ⟨B1.out, _, by rw [if_pos hp], by rw [Me.seg_none hp]; exact Row.nil w2 _⟩
    go_wp2
    go_ret2
    exact F.out
  · rw [decide_eq_true hp] at LL
    go_upto_region 4 with (go_at_call 46; refine LL.out.mono ?_; rintro e w2 ⟨rfl, v, rfl, hr⟩; have R2 := Lib.hid hr; clear hr)
    clear LL c1
    have hl : (M.seg i off n).length ≤ 256 := by unfold Me.seg; rw [List.length_take]; omega
    have F : Hid (∀ v5 w5, w5.ownsRow w.heap.size 5 1 v5 (0 + (M.seg i off n).length) ([] ++ (M.seg i off n).map enc8) → w2.grownBy w5 none → BusP M i off n w (.returned (.tuple #[v5, .int .i64 0])) w5) := by
      intro v5 w5 ho hg
      rw [Nat.zero_add, List.nil_append] at ho
      exact ⟨below_grown B1.out hg (fun k e => by cases e), _, by rw [if_neg hp], row_owns ho⟩
    have HBS := Lib.hid B1.out.size
    have XL : Hid ((M.seg i off n).length ≤ 256) := hl
    have h1 : 0 + (M.seg i off n).length ≤ maxLen := by unfold maxLen; omega
    have h3 : (0 + (M.seg i off n).length) * 1 ≤ 140737488355328 := by omega
    clear hp hl
    go_wp2_with (at_builtin; refine wpList_append_row (enc := enc8) (fun _ => rfl) (by rfl) _ _ _ (by rfl) w.heap.size 5 ii _ 1 Tryd.underlying28 HI.out HZ.out HSz.out HBy.out (by rfl) (.slice none 0 0) 0 [] (by rfl) (World.ownsRow_nil _ _ _ _) v _ (by rfl) R2.out h1 h3 HBS.out ?_; intro v5 w5 hown hgrow hat; have FF := Lib.hid (F.out v5 w5 hown hgrow); clear hown hgrow hat)
    go_ret2
    exact FF.out
/-- Bytes in the place of others, from one on. -/
def putL (A : List Nat) (off : Nat) (l : List Nat) : List Nat := A.take off ++ l ++ A.drop (off + l.length)
theorem putL_nil (A : List Nat) (off : Nat) : putL A off [] = A := by simp [putL]
theorem putL_length {A : List Nat} {off : Nat} {l : List Nat} (h : off + l.length ≤ A.length) : (putL A off l).length = A.length := by simp [putL]; omega
theorem putL_snoc {A : List Nat} {off : Nat} {l : List Nat} (y : Nat) (h : off + l.length < A.length) : putL A off (l ++ [y]) = (putL A off l).set (off + l.length) y := by
  have e : (A.take off ++ l).length = off + l.length := by simp; omega
  unfold putL
  rw [List.set_append_right _ _ (by omega), e, Nat.sub_self, List.drop_eq_getElem_cons h, List.set_cons_zero, List.length_append, List.length_singleton]
  simp [List.append_assoc, Nat.add_assoc]
def Me.put (M : Me) (i off : Nat) (l : List Nat) : Me := { M with p := fun j => if j = i then putL (M.p i) off l else M.p j }
theorem Me.put_nil (M : Me) (i off : Nat) : M.put i off [] = M := by
  unfold Me.put
  rw [putL_nil]
  congr 1
  funext j
  split
  · rename_i h; rw [h]
  · rfl
theorem Me.put_self (M : Me) (i off : Nat) (l : List Nat) : (M.put i off l).p i = putL (M.p i) off l := if_pos rfl
theorem Me.put_w (M : Me) (i off : Nat) (l : List Nat) : (M.put i off l).w = M.w := rfl
/-- One byte of a page. -/
theorem Mm.set {B mb : Nat} {pv : Nat → Value} {M : Me} {w : World} (s : Mm B mb pv M w) {i g cap j y : Nat} (hi : i < 32) (hp : (M.p i).length = 256) (hv : pv i = .slice (some ⟨g, 0, Option.none⟩) 256 cap) (hj : j < 256) (hy : y < 256) :
    Mm B mb pv { M with p := fun q => if q = i then (M.p i).set j y else M.p q } (w.setCell ⟨g, j, Option.none⟩ (.int .u8 (y : Int))) := by
  have k : Keep (fun q => q = g) w (w.setCell ⟨g, j, Option.none⟩ (.int .u8 (y : Int))) := Keep.setCell (S := fun q => q = g) (Keep.refl _ w) (p := ⟨g, j, Option.none⟩) (fun _ => rfl) _
  have hg : (pv i).ownBlock = some g := by rw [hv]; rfl
  have hgm : mb ≠ g := fun e => s.nm i hi (by rw [hg, e])
  refine ⟨s.c.keep k hgm, fun q hq => ?_, fun q hq => ?_, fun q z hz => ?_, s.nm, s.nn, s.b⟩
  · by_cases e : q = i
    · subst e
      have h := s.r q hq
      rw [hp, hv] at h
      have h2 := owns_set h hj (.int .u8 (y : Int))
      show World.ownsRow _ _ _ _ _ (if q = q then (M.p q).set j y else M.p q).length (List.map enc8 (if q = q then (M.p q).set j y else M.p q))
      rw [if_pos rfl, hv, List.length_set, hp, List.map_set]
      exact h2
    · show World.ownsRow _ _ _ _ _ (if q = i then (M.p i).set j y else M.p q).length (List.map enc8 (if q = i then (M.p i).set j y else M.p q))
      rw [if_neg e]
      exact sl_keep (s.r q hq) k (fun g' h1 h2 => s.nn i q g hi hq (Ne.symm e) hg (by rw [h1, h2]))
  · show (if q = i then (M.p i).set j y else M.p q).length = 0 ∨ (if q = i then (M.p i).set j y else M.p q).length = 256
    by_cases e : q = i
    · rw [if_pos e, List.length_set]; exact .inr hp
    · rw [if_neg e]; exact s.l q hq
  · have hz2 : z ∈ (if q = i then (M.p i).set j y else M.p q) := hz
    by_cases e : q = i
    · rw [if_pos e] at hz2
      rcases List.mem_or_eq_of_mem_set hz2 with h | rfl
      · exact s.x i z h
      · exact hy
    · rw [if_neg e] at hz2; exact s.x q z hz2
theorem Mm.put_step {B mb : Nat} {pv : Nat → Value} {M : Me} {w : World} {i off g cap y : Nat} {l : List Nat} (s : Mm B mb pv (M.put i off l) w) (hi : i < 32) (hp : (M.p i).length = 256) (hv : pv i = .slice (some ⟨g, 0, Option.none⟩) 256 cap) (hj : off + l.length < 256) (hy : y < 256) :
    Mm B mb pv (M.put i off (l ++ [y])) (w.setCell ⟨g, off + l.length, Option.none⟩ (.int .u8 (y : Int))) := by
  have hl : ((M.put i off l).p i).length = 256 := by rw [Me.put_self, putL_length (by omega), hp]
  have h := s.set hi hl hv hj hy
  have e : M.put i off (l ++ [y]) = { M.put i off l with p := fun q => if q = i then ((M.put i off l).p i).set (off + l.length) y else (M.put i off l).p q } := by
    unfold Me.put
    simp only [if_true]
    congr 1
    funext q
    by_cases e : q = i
    · rw [if_pos e, if_pos e, putL_snoc y (by omega)]
    · rw [if_neg e, if_neg e, if_neg e]
  rw [e]
  exact h
theorem Mm.drewN {B mb : Nat} {pv : Nat → Value} {M : Me} {w : World} (s : Mm B mb pv M w) (n : Nat) : Mm B mb pv M (w.drewN n) := s.below (below_drewN (Below.refl _ _) n)
/-- What a write leaves. -/
def SaveP (B mb : Nat) (pv : Nat → Value) (M : Me) (i off : Nat) (l : List Nat) (w w' : World) : Prop := Mm B mb pv (M.put i off l) w' ∧ Keep (fun g => (pv i).ownBlock = some g) w w'
set_option maxRecDepth 8000 in
set_option maxHeartbeats 2000000 in
theorem busSave_bad {B mb : Nat} {pv : Nat → Value} {M : Me} {w : World} (s : Mm B mb pv M w) (i off n : Nat) (a : Option Addr) (cap : Nat) (hi : i < 32) (ho : off + n ≤ 256) (hb : M.p i = [] ∨ M.w i = false) :
    Calls Tryd.prog 70 #[.agg #[.pointer (some ⟨mb, 0, none⟩)], .int .i64 (i : Int), .int .i64 (off : Int), .slice a n cap] w fun e w' => e = .returned (.int .i64 11) ∧ Below w.heap.size w w' := by
  have hii : (i : Int) ≤ 31 := by omega
  have hoi : (off : Int) + (n : Int) ≤ 256 := by omega
  have hoi0 : 0 ≤ (off : Int) := by omega
  have hni0 : 0 ≤ (n : Int) := by omega
  have hoi2 : (off : Int) ≤ 256 := by omega
  have hni2 : (n : Int) ≤ 256 - (off : Int) := by omega
  have hi0 : 0 ≤ (i : Int) := by omega
  have B1 := Lib.hid (show Below w.heap.size w (w.alloc (.cells #[.pointer (some ⟨mb, 0, none⟩)] 54)) from (Below.refl _ _).alloc (Nat.le_refl _) _)
  have s1 := s.below B1.out
  have c0 := s1.cell hi
  have cW := s1.cellW hi
  rcases s.two hi with hp | hp
  · obtain ⟨a2, cap2, hv⟩ := s.none hi hp
    rw [hv] at c0
    clear hb s s1 hv hp ho
    generalize (off : Int) = offi at *
    go_enter Tryd.func70, Tryd.ntmps70
    go_wp2
    go_ret
    exact ⟨rfl, B1.out⟩
  · obtain ⟨g, cap2, sp, hv, _, _, _, _⟩ := s.page hi hp
    have hw : M.w i = false := hb.resolve_left (fun e => by rw [e] at hp; cases hp)
    rw [hv] at c0
    rw [hw] at cW
    clear hb s s1 hv hp ho hw
    generalize (off : Int) = offi at *
    go_enter Tryd.func70, Tryd.ntmps70
    go_wp2
    go_ret
    exact ⟨rfl, B1.out⟩
/-- What the loop of a write keeps. -/
def SaveI (B mb : Nat) (pv : Nat → Value) (M : Me) (i off : Nat) (l : List Nat) (w0 : World) (k : Nat) (w : World) : Prop := Mm B mb pv (M.put i off (l.take k)) w ∧ Keep (fun g => (pv i).ownBlock = some g) w0 w
theorem SaveI.step {B mb : Nat} {pv : Nat → Value} {M : Me} {i off g cap k m : Nat} {l : List Nat} {w0 w : World} (s : SaveI B mb pv M i off l w0 k w) (hi : i < 32) (hp : (M.p i).length = 256) (hv : pv i = .slice (some ⟨g, 0, Option.none⟩) 256 cap) (hk : k < l.length) (ho : off + l.length ≤ 256) (hy : ∀ y ∈ l, y < 256) :
    SaveI B mb pv M i off l w0 (k + 1) ((w.drewN m).setCell ⟨g, off + k, Option.none⟩ (.int .u8 ((l.getD k 0 : Nat) : Int))) := by
  obtain ⟨h1, h2⟩ := s
  have hg : (pv i).ownBlock = some g := by rw [hv]; rfl
  have e : (l.take k).length = k := by rw [List.length_take]; omega
  have el : l.getD k 0 = l[k] := by rw [List.getD_eq_getElem?_getD, List.getElem?_eq_getElem hk]; rfl
  refine ⟨?_, (h2.drewN m).setCell (p := ⟨g, off + k, Option.none⟩) (fun _ => hg) _⟩
  have h := (h1.drewN m).put_step (y := l.getD k 0) hi hp hv (by omega) (by rw [el]; exact hy _ (List.getElem_mem hk))
  rw [e, el, ← List.take_succ_eq_append_getElem hk] at h
  rw [el]
  exact h
theorem Mm.byte {B mb : Nat} {pv : Nat → Value} {M : Me} {w : World} (s : Mm B mb pv M w) {i g cap : Nat} (hi : i < 32) (hp : (M.p i).length = 256) (hv : pv i = .slice (some ⟨g, 0, Option.none⟩) 256 cap) (j : Nat) (hj : j < 256) : (∃ y : Nat, w.cell? ⟨g, j, Option.none⟩ = some (.int .u8 (y : Int))) ∧ w.frozen? ⟨g, j, Option.none⟩ = false := by
  obtain ⟨g', cap', sp, hv', _, _, _, hb⟩ := s.page hi hp
  rw [hv] at hv'
  injection hv' with h1 _ _
  injection h1 with h1
  injection h1 with h1
  subst h1
  refine ⟨⟨(M.p i)[j], hb.cellAt ?_⟩, hb.unfrozen j⟩
  rw [List.getElem?_append_left (by rw [List.length_map]; omega), List.getElem?_map, List.getElem?_eq_getElem (by omega)]
  rfl
theorem SaveI.len {B mb : Nat} {pv : Nat → Value} {M : Me} {i off k : Nat} {l : List Nat} {w0 w : World} (s : SaveI B mb pv M i off l w0 k w) (hp : (M.p i).length = 256) (ho : off + l.length ≤ 256) : ((M.put i off (l.take k)).p i).length = 256 := by
  rw [Me.put_self, putL_length (by rw [List.length_take]; omega), hp]
set_option maxRecDepth 8000 in
set_option maxHeartbeats 4000000 in
theorem busSave_ok {B mb : Nat} {pv : Nat → Value} {M : Me} {w : World} (s : Mm B mb pv M w) (i off : Nat) (l : List Nat) (a : Addr) (cap : Nat) (hi : i < 32) (hl : l.length ≤ 8) (ho : off + l.length ≤ 256) (hp : (M.p i).length = 256) (hw : M.w i = true) (hy : ∀ y ∈ l, y < 256)
    (hr : ∀ wx, Keep (fun g => (pv i).ownBlock = some g) w wx → ∀ k, k < l.length → wx.cell? (a.add k) = some (.int .u8 ((l.getD k 0 : Nat) : Int))) :
    Calls Tryd.prog 70 #[.agg #[.pointer (some ⟨mb, 0, none⟩)], .int .i64 (i : Int), .int .i64 (off : Int), .slice (some a) l.length cap] w fun e w' => e = .returned (.int .i64 0) ∧ SaveP B mb pv M i off l w w' := by
  have hii : (i : Int) ≤ 31 := by omega
  have hoi : (off : Int) + (l.length : Int) ≤ 256 := by omega
  have hoi0 : 0 ≤ (off : Int) := by omega
  have hni0 : 0 ≤ (l.length : Int) := by omega
  have hni8 : (l.length : Int) ≤ 8 := by omega
  have hoi2 : (off : Int) ≤ 256 := by omega
  have hni2 : (l.length : Int) ≤ 256 - (off : Int) := by omega
  have hi0 : 0 ≤ (i : Int) := by omega
  have B1 := Lib.hid (show Below w.heap.size w (w.alloc (.cells #[.pointer (some ⟨mb, 0, none⟩)] 54)) from (Below.refl _ _).alloc (Nat.le_refl _) _)
  have b1 := Blk.new w #[.pointer (some ⟨mb, 0, none⟩)] 54
  have s1 := s.below B1.out
  obtain ⟨g, cap2, sp, hv, _, hc2, hm2, hgb⟩ := s.page hi hp
  have hgw := hgb.lt
  have hg : (pv i).ownBlock = some g := by rw [hv]; rfl
  have K1 := Lib.hid (show Keep (fun g => (pv i).ownBlock = some g) w (w.alloc (.cells #[.pointer (some ⟨mb, 0, none⟩)] 54)) from (Keep.refl _ w).alloc _)
  generalize hw1 : w.alloc (.cells #[.pointer (some ⟨mb, 0, none⟩)] 54) = w1 at *
  have S0 := Lib.hid (show SaveI B mb pv M i off l w1 0 w1 from ⟨by rw [List.take_zero, Me.put_nil]; exact s1, Keep.refl _ w1⟩)
  have CS := Lib.hid (fun k W (h : SaveI B mb pv M i off l w1 k W) => show W.cell? ⟨w.heap.size, 0, none⟩ = some (.pointer (some ⟨mb, 0, none⟩)) ∧ W.cell? ⟨mb, i, none⟩ = some (.slice (some ⟨g, 0, none⟩) 256 cap2) ∧ (∀ j, j < 256 → (∃ y : Nat, W.cell? ⟨g, j, none⟩ = some (.int .u8 (y : Int))) ∧ W.frozen? ⟨g, j, none⟩ = false) ∧ (∀ k, k < l.length → W.cell? (a.add k) = some (.int .u8 ((l.getD k 0 : Nat) : Int))) from
    ⟨(b1.keep h.2 (fun e => by rw [hg] at e; injection e with e; omega)).cellAt rfl, by have := h.1.cell hi; rw [hv] at this; exact this, fun j hj => h.1.byte hi (h.len hp ho) hv j hj, hr W (K1.out.trans h.2)⟩)
  have ST := Lib.hid (fun k m W (h : SaveI B mb pv M i off l w1 k W) (hk : k < l.length) => h.step (m := m) hi hp hv hk ho hy)
  have FI := Lib.hid (fun W (h : SaveI B mb pv M i off l w1 l.length W) => show SaveP B mb pv M i off l w W from ⟨by have := h.1; rw [List.take_length] at this; exact this, K1.out.trans h.2⟩)
  have c0 := s1.cell hi
  have cW := s1.cellW hi
  rw [hv] at c0
  rw [hw] at cW
  have cb := b1.cellAt (i := 0) rfl
  have hci : (256 : Int) ≤ (cap2 : Int) := by omega
  have hci2 : (cap2 : Int) ≤ 9223372036854775807 := by unfold maxLen at hm2; omega
  have e1 : ¬ (i : Int) < 0 := by omega
  have e2 : (i : Int) < 32 := by omega
  clear s s1 hv hp hw hr hy hc2 hm2 hgb hg b1 K1 B1 hi hgw ho
  go_enter Tryd.func70, Tryd.ntmps70
  go_upto_region 6 with (fail)
  try simp only [hw1]
  clear hw1 c0 cW cb
  go_loopw [9] (fun vi wr => ∃ k : Nat, k ≤ l.length ∧ vi = .int .i64 k ∧ SaveI B mb pv M i off l w1 k wr) (fun vi _ => l.length - (intOf vi).toNat)
  case atStart => exact ⟨0, Nat.zero_le _, rfl, S0.out⟩
  case round =>
    clear S0
    obtain ⟨k, hk, rfl, h⟩ := hrel
    have H := Lib.hid h
    clear h
    by_cases hlt : k < l.length
    · have hki : (k : Int) < (l.length : Int) := by omega
      obtain ⟨q0, q1, q2, q3⟩ := CS.out _ _ H.out
      obtain ⟨⟨y, q4⟩, q5⟩ := q2 (off + k) (by omega)
      have q6 := q3 k hlt
      have N := Lib.hid (ST.out k 1 _ H.out hlt)
      clear CS ST FI q2 q3 H
      generalize l.getD k 0 = z at *
      have e3 : (off : Int) + (k : Int) < 256 := by omega
      have e4 : 0 ≤ (off : Int) + (k : Int) := by omega
      have e5 : IntKind.i64.wrap ((off : Int) + (k : Int)) = (off : Int) + (k : Int) := by rw [IntKind.wrap_i64]; omega
      have e6 : 0 ≤ (k : Int) := by omega
      go_upto_region 8 with (fail)
      go_still_tail 15, (by kernel_rfl)
      change wpList _ _ _ _ _ (World.drewN _ 1)
      go_wp2
      all_goals first
        | exact ⟨⟨k + 1, by omega, by go_num, N.out⟩, by simp only [intOf]; omega⟩
        | (rename_i hq; rw [q5] at hq; cases hq)
    · have e : k = l.length := by omega
      subst e
      have F := Lib.hid (FI.out _ H.out)
      clear CS ST FI H
      go_wp2
      go_ret
      exact ⟨rfl, F.out⟩
theorem reach_load (W : World) (mb : Nat) : (method 229 54 (.agg #[.pointer (some ⟨mb, 0, none⟩)]) "Load").run Tryd.prog W = .ok (69, .agg #[.pointer (some ⟨mb, 0, none⟩)]) W := by kernel_rfl
theorem reach_save (W : World) (mb : Nat) : (method 229 54 (.agg #[.pointer (some ⟨mb, 0, none⟩)]) "Save").run Tryd.prog W = .ok (70, .agg #[.pointer (some ⟨mb, 0, none⟩)]) W := by kernel_rfl
theorem enter_load : ∀ args w, (callFunc 69 args).run Tryd.prog w = .ok (.enter 69 args) w := enters_of Tryd.func69 (by kernel_rfl) rfl
theorem enter_save : ∀ args w, (callFunc 70 args).run Tryd.prog w = .ok (.enter 70 args) w := enters_of Tryd.func70 (by kernel_rfl) rfl
/-- A word of a page of translations: where it says. -/
def wordPl (v off : Nat) (wr : Bool) : Option (Nat × Nat) := if v % 2 = 0 ∨ (wr = true ∧ v / 2 % 2 = 0) ∨ 32 ≤ v / 256 then none else some (v / 256, off)
/-- Where an address is. -/
def placeL (M : Me) (base addr : Nat) (wr : Bool) : Option (Nat × Nat) :=
  if 32 ≤ addr / 256 then none
  else if base = 0 then some (addr / 256, addr % 256)
  else if 32 ≤ base / 256 then none
  else if M.p (base / 256) = [] then none
  else wordPl (ofB ((M.seg (base / 256) (8 * (addr / 256)) 8).take 8)) (addr % 256) wr
def placeE : Option (Nat × Nat) → Ending
  | none => .returned (.tuple #[.int .i64 0, .int .i64 0, .bool false])
  | some (p, o) => .returned (.tuple #[.int .i64 (p : Int), .int .i64 (o : Int), .bool true])
theorem placeL_lt {M : Me} {base addr : Nat} {wr : Bool} {p o : Nat} (h : placeL M base addr wr = some (p, o)) : p < 32 ∧ o < 256 ∧ o = addr % 256 := by
  unfold placeL at h
  split at h
  · cases h
  · split at h
    · injection h with h; injection h with h1 h2; omega
    · split at h
      · cases h
      · split at h
        · cases h
        · unfold wordPl at h
          split at h
          · cases h
          · rename_i hn
            injection h with h; injection h with h1 h2
            omega
def cpuA (sb mb : Nat) (time me : Int) : Array Value := #[.pointer (some ⟨sb, 0, none⟩), .iface 54 (.agg #[.pointer (some ⟨mb, 0, none⟩)]), .int .u64 time, .int .i64 me]
theorem and1n {v : Nat} (hv : v < 2 ^ 64) : bits .and .u64 (v : Int) 1 = ((v % 2 : Nat) : Int) := by
  exact and1 hv
theorem and2n {v : Nat} (hv : v < 2 ^ 64) : bits .and .u64 (v : Int) 2 = ((v / 2 % 2 * 2 : Nat) : Int) := by
  have h := bits_and (k := .u64) rfl (m := v) (n := 2) hv (by decide)
  rw [show ((2 : Nat) : Int) = 2 from rfl] at h
  rw [h]
  congr 1
  apply Nat.eq_of_testBit_eq
  intro i
  rw [Nat.testBit_and, show v / 2 % 2 * 2 = 2 ^ 1 * (v / 2 % 2) by omega, Nat.testBit_two_pow_mul, show (2 : Nat) = 2 ^ 1 from rfl, Nat.testBit_two_pow, Nat.testBit_mod_two_pow (x := v / 2 ^ 1) (j := 1), Nat.testBit_div_two_pow]
  by_cases h1 : i = 1
  · subst h1; simp
  · by_cases h0 : i = 0
    · subst h0; simp
    · simp [Ne.symm h1, show ¬ (i - 1 < 1) by omega]
theorem quo256 {n : Nat} (hn : n < 2 ^ 64) : IntKind.u64.wrap ((n : Int).tdiv 256) = ((n / 256 : Nat) : Int) := by
  rw [Int.tdiv_eq_ediv_of_nonneg (by omega), wrap_u64]; omega
set_option maxRecDepth 8000 in
set_option maxHeartbeats 4000000 in
theorem place_calls {B sb mb : Nat} {pv : Nat → Value} {M : Me} {w : World} (x : Se) (hx : x.Ok) (hb : Blk w sb x.cells 26) (s : Mm B mb pv M w) (time me : Int) (addr : Nat) (wr : Bool) (ha : addr < 2 ^ 64) :
    Calls Tryd.prog 31 #[.agg (cpuA sb mb time me), .int .u64 (addr : Int), .bool wr] w fun e w' => e = placeE (placeL M (x.r.getD 17 0) addr wr) ∧ Below w.heap.size w w' := by
  have EL := enter_load
  have mL := fun W => reach_load W mb
  have B1 := Lib.hid (show Below w.heap.size w (w.alloc (.cells (cpuA sb mb time me) 67)) from (Below.refl _ _).alloc (Nat.le_refl _) _)
  have cB := (hb.below B1.out hb.lt).cellAt (hx.gr (i := 17) (by decide))
  have hbase := getD_lt hx 17
  obtain ⟨base, hbe⟩ : ∃ q, x.r.getD 17 0 = q := ⟨_, rfl⟩
  rw [hbe] at cB hbase ⊢
  have hq1 := quo256 ha
  have hq2 := quo256 hbase
  obtain ⟨pg, hpg⟩ : ∃ q, addr / 256 = q := ⟨_, rfl⟩
  obtain ⟨tb, htb⟩ : ∃ q, base / 256 = q := ⟨_, rfl⟩
  obtain ⟨of, hof⟩ : ∃ q, addr % 256 = q := ⟨_, rfl⟩
  rw [hpg] at hq1
  rw [htb] at hq2
  have hoi : (addr : Int) % 256 = (of : Int) := by omega
  have hof2 : (of : Int) ≤ 255 := by omega
  have hof3 : 0 ≤ (of : Int) := by omega
  have hpg0 : 0 ≤ (pg : Int) := by omega
  have hpg9 : (pg : Int) ≤ 72057594037927935 := by omega
  have htb0 : 0 ≤ (tb : Int) := by omega
  have htb9 : (tb : Int) ≤ 72057594037927935 := by omega
  have ha0 : 0 ≤ (addr : Int) := by omega
  have hb0 : 0 ≤ (base : Int) := by omega
  unfold placeL cpuA at *
  rw [hpg, hof, htb]
  by_cases h1 : 32 ≤ pg
  · rw [if_pos h1]
    have h1i : (32 : Int) ≤ (pg : Int) := by omega
    clear s cB hb hx hbe hpg hof h1 hq2 htb
    generalize (addr : Int) = ai at *
    go_enter Tryd.func31, Tryd.ntmps31
    go_wp2
    go_ret3
    exact ⟨rfl, B1.out⟩
  · rw [if_neg h1]
    have h1i : (pg : Int) ≤ 31 := by omega
    by_cases h2 : base = 0
    · subst h2
      rw [if_pos rfl]
      clear s hb hx hbe hpg hof h1 hq2 htb
      generalize (addr : Int) = ai at *
      go_enter Tryd.func31, Tryd.ntmps31
      go_wp2
      go_ret3
      exact ⟨rfl, B1.out⟩
    · rw [if_neg h2]
      have h2i : ((base : Int) == 0) = false := by simp; omega
      by_cases h3 : 32 ≤ tb
      · rw [if_pos h3]
        have h3i : (32 : Int) ≤ (tb : Int) := by omega
        clear s hb hx hbe hpg hof h1 htb h2 h3
        generalize (addr : Int) = ai at *
        generalize (base : Int) = bi at *
        go_enter Tryd.func31, Tryd.ntmps31
        go_wp2
        go_ret3
        exact ⟨rfl, B1.out⟩
      · rw [if_neg h3]
        have h3i : (tb : Int) ≤ 31 := by omega
        have LD := Lib.hid (busLoad_calls (s.below B1.out) tb (8 * pg) 8 (by omega) (by omega) (by omega))
        have OF := Lib.hid (fun W v (h : Row W enc8 v (M.seg tb (8 * pg) 8)) => of_calls (M.seg tb (8 * pg) 8) v W h (s.seg_lt _ _ _) (by unfold Me.seg; rw [List.length_take]; omega))
        have e8 : ((8 * pg : Nat) : Int) = 8 * (pg : Int) := by omega
        have HX : Hid (ofB ((M.seg tb (8 * pg) 8).take 8) < 2 ^ 64) := Nat.lt_of_lt_of_le (ofB_lt _ (fun y hy => s.seg_lt _ _ _ y (List.mem_of_mem_take hy))) (Nat.le_trans (Nat.pow_le_pow_right (by decide) (by rw [List.length_take]; exact Nat.min_le_left 8 _)) (by decide))
        rw [e8] at LD
        generalize ofB ((M.seg tb (8 * pg) 8).take 8) = X at *
        clear s hb hx hbe hpg hof h1 htb h2 h3 e8
        by_cases h4 : M.p tb = []
        · rw [if_pos h4]
          clear HX
          generalize (addr : Int) = ai at *
          generalize (base : Int) = bi at *
          go_enter Tryd.func31, Tryd.ntmps31
          go_upto_region 10 with (go_at_fn 69; refine LD.out.mono ?_; rintro e w2 ⟨b2, v, rfl, r2⟩; rw [if_pos h4]; have B2 := Lib.hid (B1.out.trans (b2.mono B1.out.size)); have OF2 := Lib.hid (OF.out _ _ r2); clear b2 r2)
          clear LD OF EL mL
          go_wp2_with (go_at_call 32; refine OF2.out.mono ?_; rintro e w3 ⟨rfl, rfl⟩)
          go_ret3
          exact ⟨rfl, B2.out⟩
        · rw [if_neg h4]
          have E1 := and1n HX.out
          have E2 := and2n HX.out
          obtain ⟨x1, hx1⟩ : ∃ q, X % 2 = q := ⟨_, rfl⟩
          obtain ⟨x2, hx2⟩ : ∃ q, X / 2 % 2 = q := ⟨_, rfl⟩
          obtain ⟨x3, hx3⟩ : ∃ q, X / 256 = q := ⟨_, rfl⟩
          unfold wordPl
          rw [hx1, hx2, hx3]
          rw [hx1] at E1
          rw [hx2] at E2
          have E3 : (X : Int) / 256 = (x3 : Int) := by omega
          have x30 : 0 ≤ (x3 : Int) := by omega
          have x39 : (x3 : Int) ≤ 72057594037927935 := by have := HX.out; omega
          have hX0 : 0 ≤ (X : Int) := by omega
          have hX9 : (X : Int) ≤ 18446744073709551615 := by have := HX.out; omega
          have b1 : x1 = 0 ∨ x1 = 1 := by omega
          have b2 : x2 = 0 ∨ x2 = 1 := by omega
          clear HX hx1 hx2 hx3
          obtain ⟨R, hR⟩ : ∃ R : Option (Nat × Nat), (if x1 = 0 ∨ (wr = true ∧ x2 = 0) ∨ 32 ≤ x3 then none else some (x3, of)) = R := ⟨_, rfl⟩
          rw [hR]
          have FT := Lib.hid (show (x1 = 0 ∨ (wr = true ∧ x2 = 0) ∨ 32 ≤ x3) → R = none from fun h => by rw [← hR, if_pos h])
          have FF := Lib.hid (show ¬ (x1 = 0 ∨ (wr = true ∧ x2 = 0) ∨ 32 ≤ x3) → R = some (x3, of) from fun h => by rw [← hR, if_neg h])
          clear hR
          generalize (addr : Int) = ai at *
          generalize (base : Int) = bi at *
          generalize (X : Int) = Xi at *
          go_enter Tryd.func31, Tryd.ntmps31
          go_upto_region 10 with (go_at_fn 69; refine LD.out.mono ?_; rintro e w2 ⟨b2, v, rfl, r2⟩; rw [if_neg h4]; have B2 := Lib.hid (B1.out.trans (b2.mono B1.out.size)); have OF2 := Lib.hid (OF.out _ _ r2); clear b2 r2)
          clear LD OF EL mL
          go_upto_region 11 with (go_at_call 32; refine OF2.out.mono ?_; rintro e w3 ⟨rfl, rfl⟩)
          clear OF2
          rcases b1 with rfl | rfl
          · go_wp2
            all_goals go_ret3
            all_goals exact ⟨by rw [FT.out (by simp)]; rfl, B2.out⟩
          · by_cases h5 : wr = true ∧ x2 = 0
            · obtain ⟨rfl, rfl⟩ := h5
              go_wp2
              all_goals go_ret3
              all_goals exact ⟨by rw [FT.out (by simp)]; rfl, B2.out⟩
            · by_cases h6 : 32 ≤ x3
              · have h6i : (32 : Int) ≤ (x3 : Int) := by omega
                rcases b2 with rfl | rfl
                · have hw : wr = false := by
                    cases wr with
                    | false => rfl
                    | true => exact absurd ⟨rfl, rfl⟩ h5
                  subst hw
                  go_wp2
                  all_goals go_ret3
                  all_goals exact ⟨by rw [FT.out (by simp [h6])]; rfl, B2.out⟩
                · cases wr with
                  | false =>
                    go_wp2
                    all_goals go_ret3
                    all_goals exact ⟨by rw [FT.out (by simp [h6])]; rfl, B2.out⟩
                  | true =>
                    go_wp2
                    all_goals go_ret3
                    all_goals exact ⟨by rw [FT.out (by simp [h6])]; rfl, B2.out⟩
              · have h6i : (x3 : Int) ≤ 31 := by omega
                rcases b2 with rfl | rfl
                · have hw : wr = false := by
                    cases wr with
                    | false => rfl
                    | true => exact absurd ⟨rfl, rfl⟩ h5
                  subst hw
                  go_wp2
                  all_goals go_ret3
                  all_goals exact ⟨by rw [FF.out (by simp; omega)]; rfl, B2.out⟩
                · cases wr with
                  | false =>
                    go_wp2
                    all_goals go_ret3
                    all_goals exact ⟨by rw [FF.out (by simp; omega)]; rfl, B2.out⟩
                  | true =>
                    go_wp2
                    all_goals go_ret3
                    all_goals exact ⟨by rw [FF.out (by simp; omega)]; rfl, B2.out⟩
/-- The word at an address. -/
def loadL (M : Me) (base addr n : Nat) : Option Nat :=
  match placeL M base addr false with
  | none => none
  | some (p, o) => if addr % n ≠ 0 then none else if M.p p = [] then none else some (ofB ((M.seg p o n).take 8))
def loadE : Option Nat → Ending
  | none => .returned (.tuple #[.int .u64 0, .bool false])
  | some v => .returned (.tuple #[.int .u64 (v : Int), .bool true])
theorem ofB_take8 {l : List Nat} (h : ∀ y ∈ l, y < 256) : ofB (l.take 8) < 2 ^ 64 :=
  Nat.lt_of_lt_of_le (ofB_lt _ (fun y hy => h y (List.mem_of_mem_take hy))) (Nat.le_trans (Nat.pow_le_pow_right (by decide) (by rw [List.length_take]; exact Nat.min_le_left 8 _)) (by decide))
theorem loadL_lt {M : Me} (hM : ∀ i, ∀ y ∈ M.p i, y < 256) {base addr n v : Nat} (h : loadL M base addr n = some v) : v < 2 ^ 64 := by
  unfold loadL at h
  split at h
  · cases h
  · split at h
    · cases h
    · split at h
      · cases h
      · injection h with h
        rw [← h]
        exact ofB_take8 (fun y hy => hM _ y (List.mem_of_mem_drop (List.mem_of_mem_take hy)))
set_option maxRecDepth 8000 in
set_option maxHeartbeats 4000000 in
theorem load_calls {B sb mb : Nat} {pv : Nat → Value} {M : Me} {w : World} (x : Se) (hx : x.Ok) (hb : Blk w sb x.cells 26) (s : Mm B mb pv M w) (time me : Int) (addr n : Nat) (ha : addr < 2 ^ 64) (hn : n = 4 ∨ n = 8) :
    Calls Tryd.prog 22 #[.agg (cpuA sb mb time me), .int .u64 (addr : Int), .int .i64 (n : Int)] w fun e w' => e = loadE (loadL M (x.r.getD 17 0) addr n) ∧ Below w.heap.size w w' := by
  have EL := enter_load
  have mL := fun W => reach_load W mb
  have B1 := Lib.hid (show Below w.heap.size w (w.alloc (.cells (cpuA sb mb time me) 67)) from (Below.refl _ _).alloc (Nat.le_refl _) _)
  have PC := Lib.hid (place_calls x hx (hb.below B1.out hb.lt) (s.below B1.out) time me addr false ha)
  have hbx := Blk.new w (cpuA sb mb time me) 67
  have bx := Lib.hid (fun W (h : Below (w.alloc (.cells (cpuA sb mb time me) 67)).heap.size (w.alloc (.cells (cpuA sb mb time me) 67)) W) => (hbx.below h (by simp)).cellAt (i := 1) rfl)
  have S := Lib.hid s
  unfold loadL
  have hai : 0 ≤ (addr : Int) := by omega
  obtain ⟨am, ham⟩ : ∃ q, addr % n = q := ⟨_, rfl⟩
  rw [ham]
  have BL := Lib.hid (fun W (hW : Below w.heap.size w W) p o (h : placeL M (x.r.getD 17 0) addr false = some (p, o)) (h0 : am = 0) => show Calls Tryd.prog 69 #[.agg #[.pointer (some ⟨mb, 0, none⟩)], .int .i64 (p : Int), .int .i64 (o : Int), .int .i64 (n : Int)] W (BusP M p o n W) from by
    obtain ⟨h1, h2, h3⟩ := placeL_lt h
    refine busLoad_calls (S.out.below hW) p o n h1 ?_ h2
    rcases hn with rfl | rfl <;> omega)
  have OF := Lib.hid (fun p o W v (h : Row W enc8 v (M.seg p o n)) => of_calls (M.seg p o n) v W h (S.out.seg_lt _ _ _) (by unfold Me.seg; rw [List.length_take]; rcases hn with rfl | rfl <;> omega))
  generalize hpl : placeL M (x.r.getD 17 0) addr false = pl at *
  clear hb s hx hbx hpl
  unfold cpuA at *
  cases pl with
  | none =>
    clear BL OF ham hn EL mL bx
    simp only [placeE] at PC
    generalize (addr : Int) = ai at *
    generalize (n : Int) = ni at *
    go_enter Tryd.func22, Tryd.ntmps22
    go_upto_region 2 with (go_at_call 31; refine PC.out.mono ?_; rintro e w2 ⟨rfl, b2⟩; have B2 := Lib.hid (B1.out.trans (b2.mono B1.out.size)); clear b2)
    go_wp2
    go_ret2
    exact ⟨rfl, B2.out⟩
  | some po =>
    obtain ⟨p, o⟩ := po
    simp only [placeE] at PC
    have HR := Lib.hid (show (match (some (p, o) : Option (Nat × Nat)) with | none => none | some (p, o) => if am ≠ 0 then none else if M.p p = [] then none else some (ofB ((M.seg p o n).take 8))) = if am ≠ 0 then none else if M.p p = [] then none else some (ofB ((M.seg p o n).take 8)) from rfl)
    rw [HR.out]
    clear HR
    have hami : IntKind.u64.wrap ((addr : Int).tmod (n : Int)) = (am : Int) ∧ (addr : Int) % (n : Int) = (am : Int) := by
      rw [Int.tmod_eq_emod_of_nonneg (by omega), wrap_u64, ← ham]
      rcases hn with rfl | rfl <;> omega
    obtain ⟨hm1, hm2⟩ := hami
    by_cases h0 : am = 0
    · subst h0
      rw [if_neg (by simp)]
      have B2' := Lib.hid (fun W hW => BL.out W hW p o rfl rfl)
      have O2 := Lib.hid (OF.out p o)
      have hp := Lib.hid (Classical.em (M.p p = []))
      clear BL OF ham
      have XZ := Lib.hid (fun (h4 : M.p p = []) => show ofB ((M.seg p o n).take 8) = 0 by rw [Me.seg_none h4]; rfl)
      generalize ofB ((M.seg p o n).take 8) = X at *
      have hn0 : 0 < n := by omega
      rcases hp.out with h4 | h4
      · rw [if_pos h4]
        clear hp
        rcases hn with rfl | rfl
        all_goals
          generalize (addr : Int) = ai at *
          go_enter Tryd.func22, Tryd.ntmps22
          go_upto_region 4 with (go_at_call 31; refine PC.out.mono ?_; rintro e w2 ⟨rfl, b2⟩; have c2 := bx.out _ b2; have B2 := Lib.hid (B1.out.trans (b2.mono B1.out.size)); clear b2)
          clear PC bx
          have L2 := Lib.hid (B2'.out _ B2.out)
          clear B2'
          go_upto_region 5 with (go_at_fn 69; refine L2.out.mono ?_; rintro e w3 ⟨b3, v, rfl, r3⟩; rw [if_pos h4]; have B3 := Lib.hid (B2.out.trans (b3.mono B2.out.size)); have O3 := Lib.hid (O2.out _ _ r3); clear b3 r3)
          clear L2 O2 EL mL
          go_wp2_with (go_at_call 32; refine O3.out.mono ?_; rintro e w4 ⟨rfl, rfl⟩)
          go_ret2
          exact ⟨by rw [XZ.out h4]; rfl, B3.out⟩
      · rw [if_neg h4]
        clear hp XZ
        rcases hn with rfl | rfl
        all_goals
          generalize (addr : Int) = ai at *
          go_enter Tryd.func22, Tryd.ntmps22
          go_upto_region 4 with (go_at_call 31; refine PC.out.mono ?_; rintro e w2 ⟨rfl, b2⟩; have c2 := bx.out _ b2; have B2 := Lib.hid (B1.out.trans (b2.mono B1.out.size)); clear b2)
          clear PC bx
          have L2 := Lib.hid (B2'.out _ B2.out)
          clear B2'
          go_upto_region 5 with (go_at_fn 69; refine L2.out.mono ?_; rintro e w3 ⟨b3, v, rfl, r3⟩; rw [if_neg h4]; have B3 := Lib.hid (B2.out.trans (b3.mono B2.out.size)); have O3 := Lib.hid (O2.out _ _ r3); clear b3 r3)
          clear L2 O2 EL mL
          go_wp2_with (go_at_call 32; refine O3.out.mono ?_; rintro e w4 ⟨rfl, rfl⟩)
          go_ret2
          exact ⟨rfl, B3.out⟩
    · rw [if_pos h0]
      have h0i : ((am : Int) == 0) = false := by simp; omega
      clear BL OF EL mL bx
      rcases hn with rfl | rfl
      all_goals
        generalize (addr : Int) = ai at *
        go_enter Tryd.func22, Tryd.ntmps22
        go_upto_region 2 with (go_at_call 31; refine PC.out.mono ?_; rintro e w2 ⟨rfl, b2⟩; have B2 := Lib.hid (B1.out.trans (b2.mono B1.out.size)); clear b2)
        go_wp2
        go_ret2
        exact ⟨rfl, B2.out⟩
end Go.Proofs.YtjlodddlbgpcdaaDoor.Walks
