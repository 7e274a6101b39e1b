/- Walks through the functions of the statement, and the statement over them: each contract says what the call answers and that nothing else changes. -/
import Derived.Test.YteimdlndcpmfoaaProg
import Derived.Test.YteimdlndcpmfoaaBits
import Derived.Test.YteimdlndcpmfoaaHeap
import Derived.Test.YteimdlndcpmfoaaAid
import Derived.Lib.Hide
import Derived.Test.YteimdlndcpmfoaaArr
import Derived.Test.YteimdlndcpmfoaaWalkReady
import Derived.Test.YteimdlndcpmfoaaEql
import Derived.WalkKit
import Derived.WalkSpells
import Derived.WalkLawsBesides
import Derived.Deep.QuietTactic
import Derived.BigQuiet
import Derived.Deep.RegionHeld3
import Derived.Deep.DeepCutAuto
import Derived.Deep.CutBlock
import Derived.Lib.SlBytesConst
import Derived.IntWalk
namespace Go.Proofs.Yteimdlndcpmfoaa.Walks
set_option linter.unusedVariables false
set_option linter.unusedSimpArgs false
open Go.RowKit Go.Proofs.Yteimdlndcpmfoaa.Bits Go.Proofs.Yteimdlndcpmfoaa.Heap Go.Proofs.Yteimdlndcpmfoaa.Aid Go.Proofs.Yteimdlndcpmfoaa.Arr Go.Proofs.Yteimdlndcpmfoaa.Eql

/-- The block that holds the instruction, in any later world. -/
structure Inv (w : World) (cs : List Value) (t : TypeId) (w' : World) : Prop where
  b : Below w.heap.size w w'
  k : Blk w' w.heap.size cs t
  z : w.heap.size < w'.heap.size
theorem Inv.step {w w1 w2 : World} {cs : List Value} {t : TypeId} (h : Inv w cs t w1) (hb : Below w1.heap.size w1 w2) : Inv w cs t w2 :=
  ⟨h.b.trans (hb.mono h.b.size), h.k.below hb h.z, Nat.lt_of_lt_of_le h.z hb.size⟩
theorem Inv.drewN {w w1 : World} {cs : List Value} {t : TypeId} (h : Inv w cs t w1) (m : Nat) : Inv w cs t (w1.drewN m) :=
  ⟨below_drewN h.b m, h.k.drewN m, h.z⟩
theorem Inv.new (w : World) (A : Array Value) (t : TypeId) : Inv w A.toList t (w.alloc (.cells A t)) :=
  ⟨(Below.refl _ _).alloc (Nat.le_refl _) _, Blk.new w _ _, by simp⟩
theorem Inv.set {w w1 : World} {cs : List Value} {t : TypeId} (h : Inv w cs t w1) (k : Nat) (v : Value) : Inv w (cs.set k v) t (w1.setCell ⟨w.heap.size, k, none⟩ v) :=
  ⟨h.b.setCell (Nat.le_refl _) v, h.k.set k v, by have := h.z; simpa [World.setCell] using this⟩
theorem Inv.setAll {w w1 : World} {cs : List Value} {t : TypeId} (h : Inv w cs t w1) (vs : List Value) (hl : vs.length = cs.length) : Inv w vs t (w1.setCells w.heap.size 0 vs) :=
  ⟨below_setCells h.b (Nat.le_refl _) 0 vs, blk_setAll h.k hl, by have := h.z; rw [size_setCells]; exact this⟩
/-- A call that writes block b alone (of those that were), which then holds these cells. -/
structure Upd (b : Nat) (cs : List Value) (t : TypeId) (w w' : World) : Prop where
  k : Keep (fun i => i = b) w w'
  c : Blk w' b cs t
theorem Upd.same {b : Nat} {cs : List Value} {t : TypeId} {w : World} (h : Blk w b cs t) : Upd b cs t w w := ⟨Keep.refl _ _, h⟩
theorem Upd.drewN {b : Nat} {cs : List Value} {t : TypeId} {w w' : World} (h : Upd b cs t w w') (n : Nat) : Upd b cs t w (w'.drewN n) := ⟨h.k.drewN n, h.c.drewN n⟩
theorem Upd.set {b : Nat} {cs : List Value} {t : TypeId} {w w' : World} (h : Upd b cs t w w') (i : Nat) (v : Value) : Upd b (cs.set i v) t w (w'.setCell ⟨b, i, none⟩ v) :=
  ⟨h.k.setCell (fun _ => rfl) v, h.c.set i v⟩
theorem Upd.setAll {b : Nat} {cs : List Value} {t : TypeId} {w w' : World} (h : Upd b cs t w w') (vs : List Value) (hl : vs.length = cs.length) : Upd b vs t w (w'.setCells b 0 vs) :=
  ⟨keep_setCells h.k (fun _ => rfl) 0 vs, blk_setAll h.c hl⟩
theorem Upd.trans {b : Nat} {cs cs' : List Value} {t t' : TypeId} {w w' w'' : World} (h : Upd b cs t w w') (k : Upd b cs' t' w' w'') : Upd b cs' t' w w'' := ⟨h.k.trans k.k, k.c⟩
theorem Upd.step {b : Nat} {cs : List Value} {t : TypeId} {w w' w'' : World} (h : Upd b cs t w w') (k : Below w'.heap.size w' w'') : Upd b cs t w w'' :=
  ⟨h.k.step (S' := fun _ => False) (Keep.of_below k) (fun _ _ h => h.elim), h.c.below k h.c.lt⟩
theorem Upd.below {b : Nat} {cs : List Value} {t : TypeId} {w0 w w' : World} (h : Upd b cs t w w') (h0 : Below w0.heap.size w0 w) (hb : w0.heap.size ≤ b) : Below w0.heap.size w0 w' :=
  Keep.belowB h0 h.k h0.size (fun i hi e => by omega)
theorem Upd.blk {b b' : Nat} {cs cs' : List Value} {t t' : TypeId} {w w' : World} (h : Upd b cs t w w') (k : Blk w b' cs' t') (hb : b' ≠ b) : Blk w' b' cs' t' := k.keep h.k hb
theorem Inv.upd {w w1 w2 : World} {cs cs' : List Value} {t t' : TypeId} (h : Inv w cs t w1) (u : Upd w.heap.size cs' t' w1 w2) : Inv w cs' t' w2 :=
  ⟨u.below h.b (Nat.le_refl _), u.c, Nat.lt_of_lt_of_le h.z u.k.size⟩
theorem Inv.other {w w1 w2 : World} {cs cs' : List Value} {t t' : TypeId} {b : Nat} (h : Inv w cs t w1) (u : Upd b cs' t' w1 w2) (hb : w.heap.size < b) : Inv w cs t w2 :=
  ⟨u.below h.b (Nat.le_of_lt hb), u.blk h.k (by omega), Nat.lt_of_lt_of_le h.z u.k.size⟩
/-- A block of the call's own (made since w) that holds these cells; nothing that was there at w has changed. -/
structure Own (w : World) (b : Nat) (cs : List Value) (t : TypeId) (w' : World) : Prop where
  bel : Below w.heap.size w w'
  n : w.heap.size ≤ b
  k : Blk w' b cs t
theorem Own.lt {w w1 : World} {b : Nat} {cs : List Value} {t : TypeId} (h : Own w b cs t w1) : b < w1.heap.size := h.k.lt
theorem Own.new {w w1 : World} (hb : Below w.heap.size w w1) (A : Array Value) (t : TypeId) : Own w w1.heap.size A.toList t (w1.alloc (.cells A t)) :=
  ⟨hb.alloc hb.size _, hb.size, Blk.new w1 _ _⟩
theorem Own.newL {w w1 : World} (hb : Below w.heap.size w w1) (cs : List Value) (t : TypeId) : Own w w1.heap.size cs t (w1.alloc (.cells cs.toArray t)) := Own.new hb cs.toArray t
theorem Own.alloc {w w1 : World} {b : Nat} {cs : List Value} {t : TypeId} (h : Own w b cs t w1) (o : Obj) : Own w b cs t (w1.alloc o) := ⟨h.bel.alloc h.bel.size _, h.n, h.k.alloc o⟩
theorem Own.step {w w1 w2 : World} {b : Nat} {cs : List Value} {t : TypeId} (h : Own w b cs t w1) (hb : Below w1.heap.size w1 w2) : Own w b cs t w2 :=
  ⟨h.bel.trans (hb.mono h.bel.size), h.n, h.k.below hb h.lt⟩
theorem Own.drewN {w w1 : World} {b : Nat} {cs : List Value} {t : TypeId} (h : Own w b cs t w1) (m : Nat) : Own w b cs t (w1.drewN m) := ⟨below_drewN h.bel m, h.n, h.k.drewN m⟩
theorem Own.set {w w1 : World} {b : Nat} {cs : List Value} {t : TypeId} (h : Own w b cs t w1) (k : Nat) (v : Value) : Own w b (cs.set k v) t (w1.setCell ⟨b, k, none⟩ v) :=
  ⟨h.bel.setCell h.n v, h.n, h.k.set k v⟩
theorem Own.setAll {w w1 : World} {b : Nat} {cs : List Value} {t : TypeId} (h : Own w b cs t w1) (vs : List Value) (hl : vs.length = cs.length) : Own w b vs t (w1.setCells b 0 vs) :=
  ⟨below_setCells h.bel h.n 0 vs, h.n, blk_setAll h.k hl⟩
theorem Own.setO {w w1 : World} {b b' : Nat} {cs : List Value} {t : TypeId} (h : Own w b cs t w1) (hb : b' ≠ b) (hn : w.heap.size ≤ b') (k : Nat) (v : Value) : Own w b cs t (w1.setCell ⟨b', k, none⟩ v) :=
  ⟨h.bel.setCell hn v, h.n, h.k.other hb v⟩
theorem Own.setAllO {w w1 : World} {b b' : Nat} {cs : List Value} {t : TypeId} (h : Own w b cs t w1) (hb : b' ≠ b) (hn : w.heap.size ≤ b') (o : Nat) (vs : List Value) : Own w b cs t (w1.setCells b' o vs) :=
  ⟨below_setCells h.bel hn o vs, h.n, blk_setOther h.k (Ne.symm hb) o vs⟩
theorem Own.upd {w w1 w2 : World} {b : Nat} {cs cs' : List Value} {t t' : TypeId} (h : Own w b cs t w1) (u : Upd b cs' t' w1 w2) : Own w b cs' t' w2 := ⟨u.below h.bel h.n, h.n, u.c⟩
theorem Own.updO {w w1 w2 : World} {b b' : Nat} {cs cs' : List Value} {t t' : TypeId} (h : Own w b cs t w1) (hb : b' ≠ b) (hn : w.heap.size ≤ b') (u : Upd b' cs' t' w1 w2) : Own w b cs t w2 := ⟨u.below h.bel hn, h.n, u.blk h.k (Ne.symm hb)⟩
theorem Own.cell {w w1 : World} {b : Nat} {cs : List Value} {t : TypeId} (h : Own w b cs t w1) {i : Nat} {v : Value} (hv : cs[i]? = some v) : w1.cell? ⟨b, i, none⟩ = some v := h.k.cellAt hv
theorem Own.fro {w w1 : World} {b : Nat} {cs : List Value} {t : TypeId} (h : Own w b cs t w1) (i : Nat) : w1.frozen? ⟨b, i, none⟩ = false := h.k.unfrozen i
theorem Own.all {w w1 : World} {b : Nat} {cs : List Value} {t : TypeId} (h : Own w b cs t w1) : w1.rangeAt b 0 cs := range_all h.k
theorem Own.there {w w1 : World} {b : Nat} {cs : List Value} {t : TypeId} (h : Own w b cs t w1) {n : Nat} (hn : n ≤ cs.length) : w1.there b 0 n := there_of_blk h.k (by omega)
theorem Own.drew' {w w1 w2 : World} {b : Nat} {cs : List Value} {t : TypeId} (h : Own w b cs t w1) (hm : ∃ n, w2 = w1.drewN n) : Own w b cs t w2 := by
  obtain ⟨n, rfl⟩ := hm
  exact h.drewN n
/-- The most turns of those that are ready, of the first k; the least seat from d on that has so many. -/
def mostF (t : List Int) (r : List Bool) : Nat → Int
  | 0 => -1
  | k + 1 => if r.getD k false = true ∧ mostF t r k < t.getD k 0 then t.getD k 0 else mostF t r k
def wantF (v : List Int) (r : List Bool) (m : Int) : Nat → Int
  | 0 => -1
  | k + 1 => if r.getD (17 - k) false = true ∧ v.getD (17 - k) 0 = m then ((17 - k : Nat) : Int) else wantF v r m k
theorem mostF_succ (t : List Int) (r : List Bool) (k : Nat) : mostF t r (k + 1) = if r.getD k false = true ∧ mostF t r k < t.getD k 0 then t.getD k 0 else mostF t r k := rfl
theorem wantF_succ (v : List Int) (r : List Bool) (m : Int) (k : Nat) : wantF v r m (k + 1) = if r.getD (17 - k) false = true ∧ v.getD (17 - k) 0 = m then ((17 - k : Nat) : Int) else wantF v r m k := rfl
theorem near_ge (l : List Int) (i : Nat) : 0 ≤ (nearL l).getD i 0 := by
  unfold nearL
  rw [List.getD_eq_getElem?_getD, List.getElem?_map]
  cases l[i]? <;> simp
  omega
theorem best_spec (t : List Int) (r : List Bool) (k : Nat) :
    (best t r k < 0 → ∀ i, i < k → r.getD i false = false) ∧
    (0 ≤ best t r k → r.getD (best t r k).toNat false = true ∧ (∀ i, i < k → r.getD i false = true → t.getD i 0 ≤ t.getD (best t r k).toNat 0) ∧ (∀ i, i < (best t r k).toNat → r.getD i false = true → t.getD i 0 < t.getD (best t r k).toNat 0)) := by
  induction k with
  | zero => exact ⟨fun _ i h => by omega, fun h => by simp [best] at h⟩
  | succ k ih =>
    have hr := best_range t r k
    rw [best_succ]
    by_cases hc : r.getD k false = true ∧ (best t r k < 0 ∨ t.getD k 0 > t.getD (best t r k).toNat 0)
    · rw [if_pos hc]
      refine ⟨fun h => by omega, fun _ => ?_⟩
      rw [Int.toNat_natCast]
      refine ⟨hc.1, fun i hi hri => ?_, fun i hi hri => ?_⟩
      · by_cases e : i = k
        · subst e; exact Int.le_refl _
        · rcases hc.2 with h | h
          · rw [ih.1 h i (by omega)] at hri; cases hri
          · by_cases hb : best t r k < 0
            · rw [ih.1 hb i (by omega)] at hri; cases hri
            · have := (ih.2 (by omega)).2.1 i (by omega) hri; omega
      · rcases hc.2 with h | h
        · rw [ih.1 h i (by omega)] at hri; cases hri
        · by_cases hb : best t r k < 0
          · rw [ih.1 hb i (by omega)] at hri; cases hri
          · have := (ih.2 (by omega)).2.1 i (by omega) hri; omega
    · rw [if_neg hc]
      refine ⟨fun h i hi => ?_, fun h => ?_⟩
      · by_cases e : i = k
        · subst e
          cases hrk : r.getD i false with
          | false => rfl
          | true => exact absurd ⟨hrk, Or.inl h⟩ hc
        · exact ih.1 h i (by omega)
      · obtain ⟨h1, h2, h3⟩ := ih.2 h
        refine ⟨h1, fun i hi hri => ?_, h3⟩
        by_cases e : i = k
        · subst e
          by_cases hlt : t.getD i 0 > t.getD (best t r i).toNat 0
          · exact absurd ⟨hri, Or.inr hlt⟩ hc
          · omega
        · exact h2 i (by omega) hri
theorem most_best (t : List Int) (r : List Bool) (h0 : ∀ i, 0 ≤ t.getD i 0) (k : Nat) : mostF t r k = if best t r k < 0 then -1 else t.getD (best t r k).toNat 0 := by
  induction k with
  | zero => simp [mostF, best]
  | succ k ih =>
    have hk := h0 k
    have hb := h0 (best t r k).toNat
    rw [mostF, ih, best_succ]
    by_cases hneg : best t r k < 0
    · rw [if_pos hneg]
      by_cases hr : r.getD k false = true
      · have c1 : r.getD k false = true ∧ -1 < t.getD k 0 := ⟨hr, by omega⟩
        have c2 : r.getD k false = true ∧ (best t r k < 0 ∨ t.getD k 0 > t.getD (best t r k).toNat 0) := ⟨hr, Or.inl hneg⟩
        have c3 : ¬ (k : Int) < 0 := by omega
        rw [if_pos c1, if_pos c2, if_neg c3, Int.toNat_natCast]
      · have c1 : ¬ (r.getD k false = true ∧ -1 < t.getD k 0) := fun h => hr h.1
        have c2 : ¬ (r.getD k false = true ∧ (best t r k < 0 ∨ t.getD k 0 > t.getD (best t r k).toNat 0)) := fun h => hr h.1
        rw [if_neg c1, if_neg c2, if_pos hneg]
    · rw [if_neg hneg]
      by_cases hc : r.getD k false = true ∧ t.getD (best t r k).toNat 0 < t.getD k 0
      · have c2 : r.getD k false = true ∧ (best t r k < 0 ∨ t.getD k 0 > t.getD (best t r k).toNat 0) := ⟨hc.1, Or.inr hc.2⟩
        have c3 : ¬ (k : Int) < 0 := by omega
        rw [if_pos hc, if_pos c2, if_neg c3, Int.toNat_natCast]
      · have c2 : ¬ (r.getD k false = true ∧ (best t r k < 0 ∨ t.getD k 0 > t.getD (best t r k).toNat 0)) := fun h => h.2.elim hneg (fun h2 => hc ⟨h.1, h2⟩)
        rw [if_neg hc, if_neg c2, if_neg hneg]
theorem want_best (v : List Int) (r : List Bool) (hb : 0 ≤ best v r 18) (k : Nat) (hk : k ≤ 18) :
    wantF v r (v.getD (best v r 18).toNat 0) k = if best v r 18 ≥ 18 - k then best v r 18 else wantF v r (v.getD (best v r 18).toNat 0) k := by
  have hr := best_range v r 18
  obtain ⟨h1, h2, h3⟩ := (best_spec v r 18).2 hb
  induction k with
  | zero => rw [if_neg (by omega)]
  | succ k ih =>
    by_cases hge : best v r 18 ≥ 18 - ((k + 1 : Nat) : Int)
    · rw [if_pos hge, wantF]
      by_cases e : best v r 18 = ((17 - k : Nat) : Int)
      · have e' : (best v r 18).toNat = 17 - k := by omega
        have c1 : r.getD (17 - k) false = true ∧ v.getD (17 - k) 0 = v.getD (best v r 18).toNat 0 := ⟨by rw [← e']; exact h1, by rw [← e']⟩
        rw [if_pos c1]
        exact e.symm
      · have hlt : 17 - k < (best v r 18).toNat := by omega
        rw [if_neg (by rintro ⟨a, b⟩; have := h3 _ hlt a; omega), ih (by omega), if_pos (by omega)]
    · rw [if_neg hge]
theorem want_18 (v : List Int) (r : List Bool) (hb : 0 ≤ best v r 18) : wantF v r (v.getD (best v r 18).toNat 0) 18 = best v r 18 := by
  rw [want_best v r hb 18 (Nat.le_refl _), if_pos (by omega)]
theorem wantF_step (v : List Int) (r : List Bool) (m : Int) (j : Nat) (hj : j < 18) : wantF v r m (18 - j) = if r.getD j false = true ∧ v.getD j 0 = m then (j : Int) else wantF v r m (18 - (j + 1)) := by
  have e : 18 - j = (17 - j) + 1 := by omega
  have e2 : 18 - (j + 1) = 17 - j := by omega
  have e3 : 17 - (17 - j) = j := by omega
  rw [e, wantF_succ, e2, e3]
theorem full_bound (i : Nat) : 0 ≤ full.getD i 0 ∧ full.getD i 0 ≤ 3 := by
  by_cases hi : i < 18
  · rw [full_get i hi]; omega
  · rw [List.getD_eq_getElem?_getD, List.getElem?_eq_none (by simp [full]; omega)]; decide
theorem mem_bound {u : List Int} (h : ∀ i, 0 ≤ u.getD i 0 ∧ u.getD i 0 ≤ 3) {d : Nat} {y : Int} (hy : 1 ≤ y ∧ y ≤ 3) : ∀ x ∈ u.set d (y - 1), 0 ≤ x ∧ x ≤ 3 := by
  intro x hx
  rcases List.mem_or_eq_of_mem_set hx with h1 | h1
  · obtain ⟨i, hi, rfl⟩ := List.getElem_of_mem h1
    have := h i
    rw [List.getD_eq_getElem?_getD, List.getElem?_eq_getElem hi] at this
    simpa using this
  · omega
/-- What a pick comes to. -/
theorem pick_none {t : List Int} {r : List Bool} (h : best t r 18 < 0) : pick t r = (t, -1) ∧ ∀ i, i < 18 → r.getD i false = false :=
  ⟨by unfold pick; rw [if_pos h], (best_spec t r 18).1 h⟩
theorem pick_some {t : List Int} {r : List Bool} (h : 0 ≤ best t r 18) : ∃ (u : List Int) (b : Nat), b < 18 ∧ r.getD b false = true ∧ pick t r = (u.set b (u.getD b 0 - 1), (b : Int)) ∧
    (∀ i, i < 18 → r.getD i false = true → u.getD i 0 ≤ u.getD b 0) ∧ 1 ≤ u.getD b 0 ∧ (u = t ∨ (u = full ∧ ∀ i, i < 18 → r.getD i false = true → t.getD i 0 ≤ 0)) := by
  have hr := best_range t r 18
  obtain ⟨h1, h2, h3⟩ := (best_spec t r 18).2 h
  obtain ⟨d, hd⟩ : ∃ d : Nat, best t r 18 = (d : Int) := ⟨(best t r 18).toNat, by omega⟩
  unfold pick
  rw [if_neg (by omega)]
  rw [hd] at hr h1 h2 h3 ⊢
  rw [Int.toNat_natCast] at h1 h2 h3 ⊢
  by_cases h0 : t.getD d 0 ≤ 0
  · have hf : 0 ≤ best full r 18 := by
      rcases Int.lt_or_le (best full r 18) 0 with hf | hf
      · have := (best_spec full r 18).1 hf d (by omega)
        rw [this] at h1; cases h1
      · exact hf
    have hr2 := best_range full r 18
    obtain ⟨k1, k2, k3⟩ := (best_spec full r 18).2 hf
    obtain ⟨e, he⟩ : ∃ e : Nat, best full r 18 = (e : Int) := ⟨(best full r 18).toNat, by omega⟩
    rw [if_pos h0, if_neg (by omega)]
    unfold pickOnce
    rw [he] at hr2 k1 k2 k3 ⊢
    rw [Int.toNat_natCast] at k1 k2 k3 ⊢
    exact ⟨full, e, by omega, k1, rfl, k2, by rw [full_get e (by omega)]; omega, .inr ⟨rfl, fun i hi hri => Int.le_trans (h2 i hi hri) h0⟩⟩
  · rw [if_neg h0]
    unfold pickOnce
    rw [hd, Int.toNat_natCast]
    exact ⟨t, d, by omega, h1, rfl, h2, by omega, .inl rfl⟩
theorem getD_set_self {l : List Int} {b : Nat} {v : Int} (h : b < l.length) : (l.set b v).getD b 0 = v := by
  rw [List.getD_eq_getElem?_getD, List.getElem?_set_self h]; rfl
theorem getD_set_ne {l : List Int} {b i : Nat} {v : Int} (h : b ≠ i) : (l.set b v).getD i 0 = l.getD i 0 := by
  rw [List.getD_eq_getElem?_getD, List.getElem?_set_ne h, List.getD_eq_getElem?_getD]
/-- Turns that are even. -/
structure Even (r : List Bool) (t n : List Int) (s : Nat) : Prop where
  tl : t.length = 18
  nl : n.length = 18
  bd : ∀ i, 0 ≤ t.getD i 0 ∧ t.getD i 0 ≤ 3
  nb : ∀ i, 0 ≤ n.getD i 0 ∧ n.getD i 0 ≤ s
  ev : ∃ R : Int, ∀ i, i < 18 → r.getD i false = true → n.getD i 0 + t.getD i 0 = 3 * R
  cl : ∀ i j, i < 18 → j < 18 → r.getD i false = true → r.getD j false = true → t.getD i 0 ≤ t.getD j 0 + 1
  no : ∀ i, i < 18 → r.getD i false = false → n.getD i 0 = 0
theorem zeros_get (i : Nat) : (List.replicate 18 (0 : Int)).getD i 0 = 0 := by
  rw [List.getD_eq_getElem?_getD, List.getElem?_replicate]; split <;> rfl
theorem Even.zero (r : List Bool) : Even r (List.replicate 18 0) (List.replicate 18 0) 0 := by
  refine ⟨by simp, by simp, fun i => ?_, fun i => ?_, ⟨0, fun i _ _ => ?_⟩, fun i j _ _ _ _ => ?_, fun i _ _ => ?_⟩
  all_goals simp only [zeros_get]
  all_goals decide
theorem bd_set {u : List Int} (h : ∀ i, 0 ≤ u.getD i 0 ∧ u.getD i 0 ≤ 3) (hl : u.length = 18) {b : Nat} (hb : b < 18) (h1 : 1 ≤ u.getD b 0) (i : Nat) : 0 ≤ (u.set b (u.getD b 0 - 1)).getD i 0 ∧ (u.set b (u.getD b 0 - 1)).getD i 0 ≤ 3 := by
  have h2 := h b
  by_cases e : b = i
  · subst e
    rw [getD_set_self (by omega)]; omega
  · rw [getD_set_ne e]; exact h i
theorem full_len : full.length = 18 := rfl
theorem Even.step {r : List Bool} {t n : List Int} {s : Nat} (h : Even r t n s) (hb : 0 ≤ best t r 18) : ∃ b : Nat, b < 18 ∧ (pick t r).2 = (b : Int) ∧ Even r (pick t r).1 (n.set b (n.getD b 0 + 1)) (s + 1) := by
  obtain ⟨u, b, hb18, hrb, hp, hmax, hpos, hu⟩ := pick_some hb
  obtain ⟨tl, nl, bd, nb, ⟨R, ev⟩, cl, no⟩ := h
  refine ⟨b, hb18, by rw [hp], ?_⟩
  rw [hp]
  have ul : u.length = 18 := by rcases hu with rfl | ⟨rfl, _⟩ <;> first | exact tl | rfl
  have ub : ∀ i, 0 ≤ u.getD i 0 ∧ u.getD i 0 ≤ 3 := by rcases hu with rfl | ⟨rfl, _⟩ <;> first | exact bd | exact full_bound
  have ue : ∃ R : Int, ∀ i, i < 18 → r.getD i false = true → n.getD i 0 + u.getD i 0 = 3 * R := by
    rcases hu with rfl | ⟨rfl, h0⟩
    · exact ⟨R, ev⟩
    · refine ⟨R + 1, fun i hi hri => ?_⟩
      have h1 := h0 i hi hri
      have h2 := bd i
      have h3 := ev i hi hri
      rw [full_get i hi]; omega
  have uc : ∀ i j, i < 18 → j < 18 → r.getD i false = true → r.getD j false = true → u.getD i 0 ≤ u.getD j 0 + 1 := by
    rcases hu with rfl | ⟨rfl, h0⟩
    · exact cl
    · intro i j hi hj _ _
      rw [full_get i hi, full_get j hj]; omega
  obtain ⟨R', ue⟩ := ue
  clear hu ev cl hp
  refine ⟨by simp [ul], by simp [nl], fun i => bd_set ub ul hb18 hpos i, fun i => ?_, ⟨R', fun i hi hri => ?_⟩, fun i j hi hj hri hrj => ?_, fun i hi hri => ?_⟩
  · have h1 := nb i
    by_cases e : b = i
    · subst e; rw [getD_set_self (by omega)]; omega
    · rw [getD_set_ne e]; omega
  · have h1 := ue i hi hri
    by_cases e : b = i
    · subst e; rw [getD_set_self (by omega), getD_set_self (by omega)]; omega
    · rw [getD_set_ne e, getD_set_ne e]; exact h1
  · have h1 := uc i j hi hj hri hrj
    have h2 := hmax i hi hri
    have h3 := hmax j hj hrj
    by_cases e : b = i
    · subst e
      rw [getD_set_self (by omega)]
      by_cases e2 : b = j
      · subst e2; rw [getD_set_self (by omega)]; omega
      · rw [getD_set_ne e2]; omega
    · rw [getD_set_ne e]
      by_cases e2 : b = j
      · subst e2; rw [getD_set_self (by omega)]; omega
      · rw [getD_set_ne e2]; exact h1
  · have e : b ≠ i := fun e => by subst e; rw [hri] at hrb; cases hrb
    rw [getD_set_ne e]; exact no i hi hri
theorem Even.fin {r : List Bool} {t n : List Int} {s : Nat} (h : Even r t n s) {i j : Nat} (hi : i < 18) (hj : j < 18) :
    ¬ (r.getD i false = true ∧ r.getD j false = true ∧ n.getD j 0 + 1 < n.getD i 0) ∧ ¬ (r.getD i false = false ∧ 0 < n.getD i 0) := by
  obtain ⟨tl, nl, bd, nb, ⟨R, ev⟩, cl, no⟩ := h
  constructor
  · rintro ⟨h1, h2, h3⟩
    have := ev i hi h1
    have := ev j hj h2
    have := cl j i hj hi h2 h1
    omega
  · rintro ⟨h1, h2⟩
    have := no i hi h1
    omega
/-- None is ready: no bit. -/
theorem ready_zero {q : Int} (hq : 0 ≤ q) (h : ∀ i, i < 18 → (readyL q).getD i false = false) : q % 262144 = 0 := by
  obtain ⟨m, rfl⟩ := Int.eq_ofNat_of_zero_le hq
  have hb : ∀ i, i < 18 → m.testBit i = false := by
    intro i hi
    have h1 := h i hi
    unfold readyL at h1
    rw [List.getD_eq_getElem?_getD, List.getElem?_map, List.getElem?_range hi] at h1
    simp only [Option.map_some, Option.getD_some, beq_eq_false_iff_ne, ne_eq] at h1
    rw [Nat.testBit_eq_decide_div_mod_eq]
    simp only [decide_eq_false_iff_not]
    intro h2
    refine h1 ?_
    have e : ((2 : Int) ^ i) = ((2 ^ i : Nat) : Int) := by simp
    rw [e]
    omega
  have h0 : m % 2 ^ 18 = 0 := by
    apply Nat.eq_of_testBit_eq
    intro i
    rw [Nat.testBit_mod_two_pow, Nat.zero_testBit]
    by_cases hi : i < 18
    · rw [hb i hi]; simp
    · simp [hi]
  omega
/-- Sums over the seats. -/
def sumTo (c : Nat → Nat) : Nat → Nat
  | 0 => 0
  | k + 1 => sumTo c k + c k
theorem sumTo_le {c d : Nat → Nat} {k : Nat} (h : ∀ i, i < k → c i ≤ d i) : sumTo c k ≤ sumTo d k := by
  induction k with
  | zero => exact Nat.le_refl _
  | succ k ih => exact Nat.add_le_add (ih (fun i hi => h i (by omega))) (h k (by omega))
theorem sumTo_mul (c : Nat → Nat) (m k : Nat) : sumTo (fun i => m * c i) k = m * sumTo c k := by
  induction k with
  | zero => rfl
  | succ k ih => simp only [sumTo, ih, Nat.mul_add]
theorem sumTo_bump {c : Nat → Nat} {b k : Nat} (h : b < k) : sumTo (fun i => if i = b then c i + 1 else c i) k = sumTo c k + 1 := by
  induction k with
  | zero => omega
  | succ k ih =>
    simp only [sumTo]
    by_cases e : k = b
    · subst e
      rw [if_pos rfl]
      have : sumTo (fun i => if i = k then c i + 1 else c i) k = sumTo c k := by
        have : ∀ m, m ≤ k → sumTo (fun i => if i = k then c i + 1 else c i) m = sumTo c m := by
          intro m
          induction m with
          | zero => exact fun _ => rfl
          | succ m ihm => intro hm; simp only [sumTo]; rw [ihm (by omega), if_neg (by omega)]
        exact this k (Nat.le_refl _)
      omega
    · rw [if_neg e, ih (by omega)]; omega
theorem sumTo_zero (k : Nat) : sumTo (fun _ => 0) k = 0 := by
  induction k with
  | zero => rfl
  | succ k ih => simp [sumTo, ih]
/-- How many are. -/
def cnt (e : List Bool) : Nat → Nat := sumTo fun i => (e.getD i false).toNat
theorem cnt_succ (e : List Bool) (k : Nat) : cnt e (k + 1) = cnt e k + (e.getD k false).toNat := rfl
theorem cnt_le (e : List Bool) (k : Nat) : cnt e k ≤ k := by
  induction k with
  | zero => exact Nat.le_refl _
  | succ k ih => rw [cnt_succ]; have := Bool.toNat_le (e.getD k false); omega
/-- Who waits: how often each other one was picked meanwhile. -/
structure Fair (k : Nat) (t : List Int) (e : List Bool) (wt : Nat) : Prop where
  tl : t.length = 18
  bd : ∀ i, 0 ≤ t.getD i 0 ∧ t.getD i 0 ≤ 3
  c : ∃ c : Nat → Nat, wt = sumTo c 18 ∧ (∀ i, i < 18 → 0 < c i → e.getD i false = true) ∧
    ((∀ i, i < 18 → i ≠ k → (c i : Int) + t.getD i 0 ≤ 3) ∨ (t.getD k 0 = 3 ∧ ∀ i, i < 18 → i ≠ k → (c i : Int) + t.getD i 0 ≤ 6)) ∧ c k = 0
theorem Fair.zero {k : Nat} {t : List Int} (e : List Bool) (tl : t.length = 18) (bd : ∀ i, 0 ≤ t.getD i 0 ∧ t.getD i 0 ≤ 3) : Fair k t e 0 :=
  ⟨tl, bd, fun _ => 0, (sumTo_zero 18).symm, fun i _ h => absurd h (Nat.lt_irrefl 0), .inl (fun i _ _ => by have := bd i; show ((0 : Nat) : Int) + _ ≤ 3; omega), rfl⟩
/-- All that were ever ready, and are now. -/
def orL (e r : List Bool) : List Bool := (List.range 18).map fun i => e.getD i false || r.getD i false
theorem orL_get {e r : List Bool} {i : Nat} (hi : i < 18) : (orL e r).getD i false = (e.getD i false || r.getD i false) := by
  unfold orL
  rw [List.getD_eq_getElem?_getD, List.getElem?_map, List.getElem?_range hi]; rfl
theorem Fair.step {k : Nat} {t : List Int} {e r : List Bool} {wt : Nat} (h : Fair k t e wt) (hk : k < 18) (hrk : r.getD k false = true) :
    ∃ b : Nat, b < 18 ∧ (pick t r).2 = (b : Int) ∧ r.getD b false = true ∧ Fair k (pick t r).1 (orL e r) (if b = k then 0 else wt + 1) ∧ (if b = k then 0 else wt + 1) ≤ 7 * cnt (orL e r) 18 := by
  obtain ⟨tl, bd, c, hw, hc, hin, ck⟩ := h
  have hb : 0 ≤ best t r 18 := by
    rcases Int.lt_or_le (best t r 18) 0 with hf | hf
    · have := (best_spec t r 18).1 hf k hk
      rw [this] at hrk; cases hrk
    · exact hf
  obtain ⟨u, b, hb18, hrb, hp, hmax, hpos, hu⟩ := pick_some hb
  have ul : u.length = 18 := by rcases hu with rfl | ⟨rfl, _⟩ <;> first | exact tl | rfl
  have ub : ∀ i, 0 ≤ u.getD i 0 ∧ u.getD i 0 ≤ 3 := by rcases hu with rfl | ⟨rfl, _⟩ <;> first | exact bd | exact full_bound
  have hin2 : (∀ i, i < 18 → i ≠ k → (c i : Int) + u.getD i 0 ≤ 3) ∨ (u.getD k 0 = 3 ∧ ∀ i, i < 18 → i ≠ k → (c i : Int) + u.getD i 0 ≤ 6) := by
    rcases hu with rfl | ⟨rfl, h0⟩
    · exact hin
    · have hk0 := h0 k hk hrk
      refine .inr ⟨full_get k hk, fun i hi hne => ?_⟩
      rw [full_get i hi]
      rcases hin with h1 | ⟨h1, _⟩
      · have := h1 i hi hne
        have := bd i
        omega
      · omega
  refine ⟨b, hb18, by rw [hp], hrb, ?_⟩
  rw [hp]
  have nbd := fun i => bd_set ub ul hb18 hpos i
  by_cases ebk : b = k
  · rw [if_pos ebk]
    exact ⟨Fair.zero _ (by simp [ul]) nbd, Nat.zero_le _⟩
  · rw [if_neg ebk]
    have F : Fair k (u.set b (u.getD b 0 - 1)) (orL e r) (wt + 1) := by
      refine ⟨by simp [ul], nbd, fun i => if i = b then c i + 1 else c i, by rw [sumTo_bump hb18, hw], fun i hi h => ?_, ?_, by show (if k = b then c k + 1 else c k) = 0; rw [if_neg (fun h => ebk h.symm)]; exact ck⟩
      · rw [orL_get hi]
        by_cases e1 : i = b
        · subst e1; rw [hrb]; simp
        · have h' : 0 < (if i = b then c i + 1 else c i) := h
          rw [if_neg e1] at h'; rw [hc i hi h']; rfl
      · have hs : ∀ i, ((if i = b then c i + 1 else c i : Nat) : Int) + (u.set b (u.getD b 0 - 1)).getD i 0 = (c i : Int) + u.getD i 0 := by
          intro i
          by_cases e1 : i = b
          · subst e1; rw [if_pos rfl, getD_set_self (by omega)]; omega
          · rw [if_neg e1, getD_set_ne (fun h => e1 h.symm)]
        rcases hin2 with h1 | ⟨h1, h2⟩
        · exact .inl fun i hi hne => by have q1 := hs i; have q2 := h1 i hi hne; show ((if i = b then c i + 1 else c i : Nat) : Int) + _ ≤ 3; omega
        · exact .inr ⟨by rw [getD_set_ne ebk]; exact h1, fun i hi hne => by have q1 := hs i; have q2 := h2 i hi hne; show ((if i = b then c i + 1 else c i : Nat) : Int) + _ ≤ 6; omega⟩
    refine ⟨F, ?_⟩
    obtain ⟨_, _, c', hw', hc', hin', ck'⟩ := F
    rw [hw']
    unfold cnt
    rw [← sumTo_mul]
    apply sumTo_le
    intro i hi
    by_cases e1 : i = k
    · subst e1; rw [ck']; omega
    · have h3 : (c' i : Int) ≤ 6 := by
        have h4 := nbd i
        rcases hin' with h1 | ⟨_, h1⟩
        · have := h1 i hi e1; omega
        · have := h1 i hi e1; omega
      by_cases h5 : 0 < c' i
      · rw [hc' i hi h5]; simp; omega
      · omega
theorem near_le (l : List Int) (hx : ∀ x ∈ l, 0 ≤ x ∧ x ≤ 255) : ∀ i, (nearL l).getD i 0 ≤ 3 := fun i => by
  unfold nearL
  rw [List.getD_eq_getElem?_getD, List.getElem?_map]
  cases l[i]? <;> simp
  omega
theorem sizeU18 : (Try.prog.info? 22).map (·.size) = some 18 := by kernel_rfl
theorem zero_turns (w : World) : (zeroValue 25).run Try.prog w = .ok (.agg ((List.replicate 18 (0 : Int)).map (Value.int .i64)).toArray) w := by kernel_rfl
theorem zero_ints18 (w : World) : (zeroValue 24).run Try.prog w = .ok (.agg ((List.replicate 18 (0 : Int)).map (Value.int .i64)).toArray) w := by kernel_rfl
theorem zero_bools18 (w : World) : (zeroValue 27).run Try.prog w = .ok (.agg ((List.replicate 18 false).map Value.bool).toArray) w := by kernel_rfl
theorem sizeI18 : (Try.prog.info? 24).map (·.size) = some 18 := by kernel_rfl
theorem map_getI {l : List Int} {i : Nat} (h : i < l.length) : (l.map (Value.int .i64))[i]? = some (.int .i64 (l.getD i 0)) := by
  rw [List.getElem?_map, List.getElem?_eq_getElem h]; simp [List.getD, List.getElem?_eq_getElem h]
theorem map_getB {l : List Bool} {i : Nat} (h : i < l.length) : (l.map Value.bool)[i]? = some (.bool (l.getD i false)) := by
  rw [List.getElem?_map, List.getElem?_eq_getElem h]; simp [List.getD, List.getElem?_eq_getElem h]
set_option maxHeartbeats 4000000 in
theorem even_calls (q : Int) (hq0 : 0 ≤ q) (hq1 : q ≤ 4294967295) (s : Nat) (hs : s < 256) (w : World) :
    Calls Try.prog 5 #[.int .u32 q, .int .u8 (s : Int)] w fun e w' => e = .returned (.bool true) ∧ Below w.heap.size w w' := by
  have R1 := Lib.hid (fun w => ready_calls q hq0 hq1 w)
  have QZ := Lib.hid (ready_zero hq0)
  have LQ : Hid ((readyL q).length = 18) := by show (readyL q).length = 18; simp [readyL]
  generalize readyL q = r at *
  obtain ⟨R, hR⟩ : ∃ R, r.map Value.bool = R := ⟨_, rfl⟩
  rw [hR] at R1
  have HR := Lib.hid hR
  have LR := Lib.hid (show R.length = 18 by rw [← hR, List.length_map, LQ.out])
  have OR : Hid (∀ v ∈ R, v.oneCell' = true) := by rw [← hR]; exact one_bools _
  have IR := Lib.hid (show (Try.prog.info? 27).map (·.size) = some R.length by rw [LR.out, size18B])
  clear hR
  obtain ⟨ZI, hZI⟩ : ∃ ZI, (List.replicate 18 (0 : Int)).map (Value.int .i64) = ZI := ⟨_, rfl⟩
  obtain ⟨ZB, hZB⟩ : ∃ ZB, (List.replicate 18 false).map Value.bool = ZB := ⟨_, rfl⟩
  have hz1 := zero_turns
  have hz2 := zero_ints18
  have hz3 := zero_bools18
  rw [hZI] at hz1 hz2
  rw [hZB] at hz3
  have hs1 : ZI.toArray.size = 18 := by rw [← hZI]; rfl
  have hs2 : ZB.toArray.size = 18 := by rw [← hZB]; rfl
  have hn1 : ¬ ZI.toArray = #[] := fun h => by rw [h] at hs1; simp at hs1
  have hn2 : ¬ ZB.toArray = #[] := fun h => by rw [h] at hs2; simp at hs2
  have LI := Lib.hid (show ZI.length = 18 by simpa using hs1)
  have LB := Lib.hid (show ZB.length = 18 by simpa using hs2)
  have HZI := Lib.hid hZI
  clear hZI hZB
  go_enter Try.func5, Try.ntmps5
  go_wp2_with fail
  refine (R1.out _).mono ?_
  rintro e w1 ⟨rfl, hb⟩
  have B1 := Lib.hid hb
  clear hb
  have X2 := Lib.hid (Own.newL B1.out ZB 27)
  go_upto_region 2 with (refine wpList_store_mid rfl 27 (.tmp 5) (.tmp 14) rfl w1.heap.size 0 R.toArray rfl rfl (X2.out.there ?s1) ?s2 ?s3 ?_)
  case s1 => have := LR.out; have := LB.out; simp; omega
  case s2 => simpa using IR.out
  case s3 => first | exact OR.out | exact all_oneCell_toArray OR.out
  have X3 := Lib.hid (X2.out.setAll R (by rw [LR.out, LB.out]))
  generalize World.setCells _ _ _ _ = w3 at *
  generalize w1.heap.size = M5 at *
  clear X2 B1
  have E4 := Lib.hid (Own.newL X3.out.bel ZI 25)
  have X4 := Lib.hid (X3.out.alloc (.cells ZI.toArray 25))
  have N4 := Lib.hid (show M5 < w3.heap.size from X3.out.lt)
  go_upto_region 3 with (fail)
  generalize w3.alloc (.cells ZI.toArray 25) = w4 at *
  generalize w3.heap.size = M6 at *
  have F5 := Lib.hid (Own.newL X4.out.bel ZI 24)
  have X5 := Lib.hid (X4.out.alloc (.cells ZI.toArray 24))
  have E5 := Lib.hid (E4.out.alloc (.cells ZI.toArray 24))
  have N5 := Lib.hid (show M6 < w4.heap.size from E4.out.lt)
  go_upto_region 4 with (fail)
  generalize w4.alloc (.cells ZI.toArray 24) = w5 at *
  generalize w4.heap.size = M7 at *
  clear X3 X4 E4
  have MZ := Lib.hid (show w.heap.size ≤ M5 from X5.out.n)
  go_wp2_with fail
  go_loopw [8] (fun i wr => ∃ (k : Nat) (t n : List Int), k ≤ s ∧ i = .int .i64 k ∧ Even r t n k ∧ Own w M5 R 27 wr ∧ Own w M6 (t.map (Value.int .i64)) 25 wr ∧ Own w M7 (n.map (Value.int .i64)) 24 wr) (fun i _ => s - (intOf i).toNat)
  case atStart => exact ⟨0, List.replicate 18 0, List.replicate 18 0, by omega, rfl, Even.zero r, X5.out, by rw [HZI.out]; exact E5.out, by rw [HZI.out]; exact F5.out⟩
  case round =>
    clear X5 E5 F5 hz2 hz3 hs2 hn2
    obtain ⟨k, t, n, hk, rfl, hev, o1, o2, o3⟩ := hrel
    have X1 := Lib.hid o1
    have E1 := Lib.hid o2
    have F1 := Lib.hid o3
    have EV := Lib.hid hev
    clear o1 o2 o3 hev
    by_cases hlt : k < s
    · have LT := Lib.hid (show (t.map (Value.int .i64)).length = 18 by rw [List.length_map, EV.out.tl])
      have IT := Lib.hid (show (Try.prog.info? 25).map (·.size) = some (t.map (Value.int .i64)).length by rw [LT.out, size18I])
      have PC := Lib.hid (pick_calls t r EV.out.tl LQ.out (fun i => (EV.out.bd i).2))
      have LP := Lib.hid (pick_length t r EV.out.tl)
      rw [HR.out] at PC
      obtain ⟨V, hV⟩ : ∃ V, (pick t r).1.map (Value.int .i64) = V := ⟨_, rfl⟩
      rw [hV] at PC
      have LV := Lib.hid (show V.length = 18 by rw [← hV, List.length_map, LP.out])
      have OV : Hid (∀ v ∈ V, v.oneCell' = true) := by rw [← hV]; exact one_ints .i64 _
      have IV := Lib.hid (show (Try.prog.info? 25).map (·.size) = some V.length by rw [LV.out, size18I])
      have HV := Lib.hid hV
      clear hV
      generalize hTC : t.map (Value.int .i64) = TC at *
      clear hTC
      go_wp2_with (first | refine wpList_load_mid rfl 25 (.tmp 6) rfl M6 0 rfl TC _ E1.out.all Try.underlying25 rfl IT.out ?_ | refine wpList_load_mid rfl 27 (.tmp 5) rfl M5 0 rfl R _ X1.out.all Try.underlying27 rfl IR.out ?_)
      refine (PC.out _).mono ?_
      rintro e w6 ⟨rfl, hb⟩
      have X6 := Lib.hid (X1.out.step hb)
      have E6 := Lib.hid (E1.out.step hb)
      have F6 := Lib.hid (F1.out.step hb)
      clear hb X1 E1 F1 PC
      have D7 := Lib.hid (Own.newL X6.out.bel ZI 25)
      have X7 := Lib.hid (X6.out.alloc (.cells ZI.toArray 25))
      have E7 := Lib.hid (E6.out.alloc (.cells ZI.toArray 25))
      have F7 := Lib.hid (F6.out.alloc (.cells ZI.toArray 25))
      have S7 : Hid (M5 < w6.heap.size ∧ M6 < w6.heap.size ∧ M7 < w6.heap.size) := ⟨X6.out.lt, E6.out.lt, F6.out.lt⟩
      generalize hpx : (pick t r).2 = px at *
      have HPX := Lib.hid hpx
      clear hpx
      go_upto_region 8 with (refine wpList_store_mid rfl 25 (.tmp 9) (.tmp 25) rfl w6.heap.size 0 V.toArray rfl rfl (D7.out.there ?s1) ?s2 ?s3 ?_)
      case s1 => have := LV.out; have := LI.out; simp; omega
      case s2 => simpa using IV.out
      case s3 => first | exact OV.out | exact all_oneCell_toArray OV.out
      have D8 := Lib.hid (D7.out.setAll V (by rw [LV.out, LI.out]))
      have X8 := Lib.hid (X7.out.setAllO (Ne.symm (Nat.ne_of_lt S7.out.1)) D7.out.n 0 V)
      have E8 := Lib.hid (E7.out.setAllO (Ne.symm (Nat.ne_of_lt S7.out.2.1)) D7.out.n 0 V)
      have F8 := Lib.hid (F7.out.setAllO (Ne.symm (Nat.ne_of_lt S7.out.2.2)) D7.out.n 0 V)
      generalize World.setCells _ _ _ _ = w8 at *
      generalize w6.heap.size = M9 at *
      clear D7 X7 E7 F7 X6 E6 F6
      by_cases hbn : best t r 18 < 0
      · obtain ⟨hp, hall⟩ := pick_none hbn
        have hm1 : px = -1 := by rw [← HPX.out, hp]
        subst hm1
        have hq2 := QZ.out hall
        clear hp hall hbn
        go_wp2_with fail
        refine (awake_calls _).mono ?_
        rintro e w9 ⟨rfl, hb⟩
        have X9 := Lib.hid (X8.out.step hb)
        clear hb
        go_wp2_with fail
        go_ret
        exact ⟨rfl, X9.out.bel⟩
      · obtain ⟨b, hb18, hpb, hEV⟩ := EV.out.step (show 0 ≤ best t r 18 by omega)
        rw [HPX.out] at hpb
        subst hpb
        have EV2 := Lib.hid hEV
        have hb0 : 0 ≤ (b : Int) := by omega
        have hbi : (b : Int) < 18 := by omega
        have hd : decide ((b : Int) < 0) = false := decide_eq_false (by omega)
        have hnb := EV.out.nb b
        have hn0 : 0 ≤ n.getD b 0 := hnb.1
        have hn1' : n.getD b 0 ≤ 255 := by omega
        clear hEV hbn hnb
        have CX := Lib.hid (map_getI (show b < n.length by have := EV.out.nl; omega))
        have SET := Lib.hid (map_set_int n b (n.getD b 0 + 1))
        generalize n.getD b 0 = x at *
        have D9 := Lib.hid (D8.out.setAllO (show M6 ≠ M9 from Nat.ne_of_lt S7.out.2.1) E8.out.n 0 V)
        go_upto_region 11 with (first | refine wpList_load_mid rfl 25 (.tmp 9) rfl M9 0 rfl V _ D8.out.all Try.underlying25 rfl IV.out ?_ | refine wpList_store_mid rfl 25 (.tmp 6) (.tmp 35) rfl M6 0 V.toArray rfl rfl (E8.out.there ?s1) ?s2 ?s3 ?_)
        case s1 => have := LV.out; have := LT.out; simp; omega
        case s2 => simpa using IV.out
        case s3 => first | exact OV.out | exact all_oneCell_toArray OV.out
        have E9 := Lib.hid (E8.out.setAll V (by rw [LV.out, LT.out]))
        have X9 := Lib.hid (X8.out.setAllO (show M6 ≠ M5 from Ne.symm (Nat.ne_of_lt N4.out)) E8.out.n 0 V)
        have F9 := Lib.hid (F8.out.setAllO (show M6 ≠ M7 from Nat.ne_of_lt N5.out) E8.out.n 0 V)
        generalize World.setCells _ _ _ _ = w9 at *
        have hcn := F9.out.cell CX.out
        have hfn := F9.out.fro b
        have N57 : Hid (M7 ≠ M5) := Ne.symm (Nat.ne_of_lt (Nat.lt_trans N4.out N5.out))
        have N67 : Hid (M7 ≠ M6) := Ne.symm (Nat.ne_of_lt N5.out)
        have X10 := Lib.hid (X9.out.setO N57.out F9.out.n b (.int .i64 (x + 1)))
        have E10 := Lib.hid (E9.out.setO N67.out F9.out.n b (.int .i64 (x + 1)))
        have F10 := Lib.hid (F9.out.set b (.int .i64 (x + 1)))
        rw [← SET.out] at F10
        rw [← HV.out] at E10
        go_wp2_with fail
        go_roundw
        case rel => exact ⟨k + 1, (pick t r).1, n.set b (x + 1), by omega, by go_num, EV2.out, X10.out, E10.out, F10.out⟩
        case measure => simp [intOf]; omega
    · obtain rfl : k = s := by omega
      have FIN : Hid (∀ i j, i < 18 → j < 18 → _) := fun i j hi hj => EV.out.fin (i := i) (j := j) hi hj
      have NB := Lib.hid EV.out.nb
      have NL := Lib.hid EV.out.nl
      clear E1 EV hlt hz1 hs1 hn1 QZ R1 HZI
      go_wp2_with fail
      go_loopw [11] (fun i wr => ∃ a : Nat, a ≤ 18 ∧ i = .int .i64 a ∧ Own w M5 R 27 wr ∧ Own w M7 (n.map (Value.int .i64)) 24 wr) (fun i _ => 18 - (intOf i).toNat)
      case atStart => exact ⟨0, by omega, rfl, X1.out, F1.out⟩
      case round =>
        rename_i wo _
        clear X1 F1
        obtain ⟨a, ha, rfl, o1, o2⟩ := hrel
        have X2 := Lib.hid o1
        have F2 := Lib.hid o2
        clear o1 o2
        by_cases ha18 : a < 18
        · go_wp2_with fail
          go_loopw [12] (fun i wr => ∃ c : Nat, c ≤ 18 ∧ i = .int .i64 c ∧ Own w M5 R 27 wr ∧ Own w M7 (n.map (Value.int .i64)) 24 wr) (fun i _ => 18 - (intOf i).toNat)
          case atStart => exact ⟨0, by omega, rfl, X2.out, F2.out⟩
          case round =>
            clear X2 F2
            obtain ⟨c, hc, rfl, o1, o2⟩ := hrel
            have X3 := Lib.hid o1
            have F3 := Lib.hid o2
            clear o1 o2
            by_cases hc18 : c < 18
            · have hfin := FIN.out a c ha18 hc18
              have k1 := X3.out.cell (by rw [← HR.out]; exact map_getB (show a < r.length by rw [LQ.out]; exact ha18))
              have k2 := X3.out.cell (by rw [← HR.out]; exact map_getB (show c < r.length by rw [LQ.out]; exact hc18))
              have k3 := F3.out.cell (map_getI (show a < n.length by rw [NL.out]; exact ha18))
              have k4 := F3.out.cell (map_getI (show c < n.length by rw [NL.out]; exact hc18))
              have nb1 := NB.out c
              have nb3 := nb1.1
              have nb4 : n.getD c 0 ≤ 255 := by omega
              have nb5 : IntKind.i64.wrap (n.getD c 0 + 1) = n.getD c 0 + 1 := IntWalk.i64_in _ (by omega)
              have ha0 : 0 ≤ (a : Int) := by omega
              have ha1 : (a : Int) < 18 := by omega
              have hc0 : 0 ≤ (c : Int) := by omega
              have hc1 : (c : Int) < 18 := by omega
              clear nb1
              generalize n.getD a 0 = x at *
              generalize n.getD c 0 = y at *
              generalize r.getD c false = rc at *
              cases hra : r.getD a false with
              | true =>
                rw [hra] at hfin k1
                clear hra
                cases rc with
                | true =>
                  have hxy : decide (y + 1 < x) = false := decide_eq_false (fun h => hfin.1 ⟨rfl, rfl, h⟩)
                  clear hfin
                  go_wp2_with fail
                  go_quiet (fail)
                  go_wp2_with fail
                  go_roundw
                  case rel => exact ⟨c + 1, by omega, by go_num, X3.out.drewN _, F3.out.drewN _⟩
                  case measure => simp [intOf]; omega
                | false =>
                  clear hfin
                  go_wp2_with fail
                  go_quiet (fail)
                  go_wp2_with fail
                  go_roundw
                  case rel => exact ⟨c + 1, by omega, by go_num, X3.out.drewN _, F3.out.drewN _⟩
                  case measure => simp [intOf]; omega
              | false =>
                rw [hra] at hfin k1
                clear hra
                have hx0 : decide (0 < x) = false := decide_eq_false (fun h => hfin.2 ⟨rfl, h⟩)
                clear hfin
                go_wp2_with fail
                go_quiet (fail)
                go_wp2_with fail
                go_roundw
                case rel => exact ⟨c + 1, by omega, by go_num, X3.out.drewN _, F3.out.drewN _⟩
                case measure => simp [intOf]; omega
            · obtain rfl : c = 18 := by omega
              go_wp2_with fail
              go_roundw
              case rel => exact ⟨a + 1, by omega, by go_num, X3.out, F3.out⟩
              case measure => simp [intOf]; omega
        · obtain rfl : a = 18 := by omega
          go_wp2_with fail
          refine (awake_calls _).mono ?_
          rintro e w9 ⟨rfl, hb⟩
          have X9 := Lib.hid (X2.out.step hb)
          clear hb
          go_wp2_with fail
          go_ret
          exact ⟨rfl, X9.out.bel⟩
theorem even_walk (a0 : Int) (a1 : Int) (w : World) (w0 : (Lit.int .u32 a0).wf = true) (w1 : (Lit.int .u8 a1).wf = true) :
    Calls Try.prog 5 #[.int .u32 a0, .int .u8 a1] w fun e w' => e = .returned (.bool true) ∧ Below w.heap.size w w' := by
  obtain ⟨m, rfl, hm⟩ := Bits.wf_u32 w0
  obtain ⟨n, rfl, hn⟩ := Bits.wf_u8 w1
  exact even_calls _ (by omega) (by omega) n hn w
end Go.Proofs.Yteimdlndcpmfoaa.Walks
