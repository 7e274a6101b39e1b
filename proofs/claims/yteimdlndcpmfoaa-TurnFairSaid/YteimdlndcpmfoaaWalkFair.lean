/- Walks through the functions of the statement, and the statement over them: each contract says what the call answers and that nothing else changes. -/
import Derived.Test.YteimdlndcpmfoaaProg
import Derived.Test.YteimdlndcpmfoaaBits
import Derived.Test.YteimdlndcpmfoaaHeap
import Derived.Test.YteimdlndcpmfoaaAid
import Derived.Lib.Hide
import Derived.Test.YteimdlndcpmfoaaArr
import Derived.Test.YteimdlndcpmfoaaWalkReady
import Derived.Test.YteimdlndcpmfoaaEql
import Derived.WalkKit
import Derived.WalkSpells
import Derived.WalkLawsBesides
import Derived.Deep.QuietTactic
import Derived.BigQuiet
import Derived.Deep.RegionHeld3
import Derived.Deep.DeepCutAuto
import Derived.Deep.CutBlock
import Derived.Lib.SlBytesConst
import Derived.IntWalk
namespace Go.Proofs.Yteimdlndcpmfoaa.Walks
set_option linter.unusedVariables false
set_option linter.unusedSimpArgs false
open Go.RowKit Go.Proofs.Yteimdlndcpmfoaa.Bits Go.Proofs.Yteimdlndcpmfoaa.Heap Go.Proofs.Yteimdlndcpmfoaa.Aid Go.Proofs.Yteimdlndcpmfoaa.Arr Go.Proofs.Yteimdlndcpmfoaa.Eql

/-- The block that holds the instruction, in any later world. -/
structure Inv (w : World) (cs : List Value) (t : TypeId) (w' : World) : Prop where
  b : Below w.heap.size w w'
  k : Blk w' w.heap.size cs t
  z : w.heap.size < w'.heap.size
theorem Inv.step {w w1 w2 : World} {cs : List Value} {t : TypeId} (h : Inv w cs t w1) (hb : Below w1.heap.size w1 w2) : Inv w cs t w2 :=
  ⟨h.b.trans (hb.mono h.b.size), h.k.below hb h.z, Nat.lt_of_lt_of_le h.z hb.size⟩
theorem Inv.drewN {w w1 : World} {cs : List Value} {t : TypeId} (h : Inv w cs t w1) (m : Nat) : Inv w cs t (w1.drewN m) :=
  ⟨below_drewN h.b m, h.k.drewN m, h.z⟩
theorem Inv.new (w : World) (A : Array Value) (t : TypeId) : Inv w A.toList t (w.alloc (.cells A t)) :=
  ⟨(Below.refl _ _).alloc (Nat.le_refl _) _, Blk.new w _ _, by simp⟩
theorem Inv.set {w w1 : World} {cs : List Value} {t : TypeId} (h : Inv w cs t w1) (k : Nat) (v : Value) : Inv w (cs.set k v) t (w1.setCell ⟨w.heap.size, k, none⟩ v) :=
  ⟨h.b.setCell (Nat.le_refl _) v, h.k.set k v, by have := h.z; simpa [World.setCell] using this⟩
theorem Inv.setAll {w w1 : World} {cs : List Value} {t : TypeId} (h : Inv w cs t w1) (vs : List Value) (hl : vs.length = cs.length) : Inv w vs t (w1.setCells w.heap.size 0 vs) :=
  ⟨below_setCells h.b (Nat.le_refl _) 0 vs, blk_setAll h.k hl, by have := h.z; rw [size_setCells]; exact this⟩
/-- A call that writes block b alone (of those that were), which then holds these cells. -/
structure Upd (b : Nat) (cs : List Value) (t : TypeId) (w w' : World) : Prop where
  k : Keep (fun i => i = b) w w'
  c : Blk w' b cs t
theorem Upd.same {b : Nat} {cs : List Value} {t : TypeId} {w : World} (h : Blk w b cs t) : Upd b cs t w w := ⟨Keep.refl _ _, h⟩
theorem Upd.drewN {b : Nat} {cs : List Value} {t : TypeId} {w w' : World} (h : Upd b cs t w w') (n : Nat) : Upd b cs t w (w'.drewN n) := ⟨h.k.drewN n, h.c.drewN n⟩
theorem Upd.set {b : Nat} {cs : List Value} {t : TypeId} {w w' : World} (h : Upd b cs t w w') (i : Nat) (v : Value) : Upd b (cs.set i v) t w (w'.setCell ⟨b, i, none⟩ v) :=
  ⟨h.k.setCell (fun _ => rfl) v, h.c.set i v⟩
theorem Upd.setAll {b : Nat} {cs : List Value} {t : TypeId} {w w' : World} (h : Upd b cs t w w') (vs : List Value) (hl : vs.length = cs.length) : Upd b vs t w (w'.setCells b 0 vs) :=
  ⟨keep_setCells h.k (fun _ => rfl) 0 vs, blk_setAll h.c hl⟩
theorem Upd.trans {b : Nat} {cs cs' : List Value} {t t' : TypeId} {w w' w'' : World} (h : Upd b cs t w w') (k : Upd b cs' t' w' w'') : Upd b cs' t' w w'' := ⟨h.k.trans k.k, k.c⟩
theorem Upd.step {b : Nat} {cs : List Value} {t : TypeId} {w w' w'' : World} (h : Upd b cs t w w') (k : Below w'.heap.size w' w'') : Upd b cs t w w'' :=
  ⟨h.k.step (S' := fun _ => False) (Keep.of_below k) (fun _ _ h => h.elim), h.c.below k h.c.lt⟩
theorem Upd.below {b : Nat} {cs : List Value} {t : TypeId} {w0 w w' : World} (h : Upd b cs t w w') (h0 : Below w0.heap.size w0 w) (hb : w0.heap.size ≤ b) : Below w0.heap.size w0 w' :=
  Keep.belowB h0 h.k h0.size (fun i hi e => by omega)
theorem Upd.blk {b b' : Nat} {cs cs' : List Value} {t t' : TypeId} {w w' : World} (h : Upd b cs t w w') (k : Blk w b' cs' t') (hb : b' ≠ b) : Blk w' b' cs' t' := k.keep h.k hb
theorem Inv.upd {w w1 w2 : World} {cs cs' : List Value} {t t' : TypeId} (h : Inv w cs t w1) (u : Upd w.heap.size cs' t' w1 w2) : Inv w cs' t' w2 :=
  ⟨u.below h.b (Nat.le_refl _), u.c, Nat.lt_of_lt_of_le h.z u.k.size⟩
theorem Inv.other {w w1 w2 : World} {cs cs' : List Value} {t t' : TypeId} {b : Nat} (h : Inv w cs t w1) (u : Upd b cs' t' w1 w2) (hb : w.heap.size < b) : Inv w cs t w2 :=
  ⟨u.below h.b (Nat.le_of_lt hb), u.blk h.k (by omega), Nat.lt_of_lt_of_le h.z u.k.size⟩
/-- A block of the call's own (made since w) that holds these cells; nothing that was there at w has changed. -/
structure Own (w : World) (b : Nat) (cs : List Value) (t : TypeId) (w' : World) : Prop where
  bel : Below w.heap.size w w'
  n : w.heap.size ≤ b
  k : Blk w' b cs t
theorem Own.lt {w w1 : World} {b : Nat} {cs : List Value} {t : TypeId} (h : Own w b cs t w1) : b < w1.heap.size := h.k.lt
theorem Own.new {w w1 : World} (hb : Below w.heap.size w w1) (A : Array Value) (t : TypeId) : Own w w1.heap.size A.toList t (w1.alloc (.cells A t)) :=
  ⟨hb.alloc hb.size _, hb.size, Blk.new w1 _ _⟩
theorem Own.newL {w w1 : World} (hb : Below w.heap.size w w1) (cs : List Value) (t : TypeId) : Own w w1.heap.size cs t (w1.alloc (.cells cs.toArray t)) := Own.new hb cs.toArray t
theorem Own.alloc {w w1 : World} {b : Nat} {cs : List Value} {t : TypeId} (h : Own w b cs t w1) (o : Obj) : Own w b cs t (w1.alloc o) := ⟨h.bel.alloc h.bel.size _, h.n, h.k.alloc o⟩
theorem Own.step {w w1 w2 : World} {b : Nat} {cs : List Value} {t : TypeId} (h : Own w b cs t w1) (hb : Below w1.heap.size w1 w2) : Own w b cs t w2 :=
  ⟨h.bel.trans (hb.mono h.bel.size), h.n, h.k.below hb h.lt⟩
theorem Own.drewN {w w1 : World} {b : Nat} {cs : List Value} {t : TypeId} (h : Own w b cs t w1) (m : Nat) : Own w b cs t (w1.drewN m) := ⟨below_drewN h.bel m, h.n, h.k.drewN m⟩
theorem Own.set {w w1 : World} {b : Nat} {cs : List Value} {t : TypeId} (h : Own w b cs t w1) (k : Nat) (v : Value) : Own w b (cs.set k v) t (w1.setCell ⟨b, k, none⟩ v) :=
  ⟨h.bel.setCell h.n v, h.n, h.k.set k v⟩
theorem Own.setAll {w w1 : World} {b : Nat} {cs : List Value} {t : TypeId} (h : Own w b cs t w1) (vs : List Value) (hl : vs.length = cs.length) : Own w b vs t (w1.setCells b 0 vs) :=
  ⟨below_setCells h.bel h.n 0 vs, h.n, blk_setAll h.k hl⟩
theorem Own.setO {w w1 : World} {b b' : Nat} {cs : List Value} {t : TypeId} (h : Own w b cs t w1) (hb : b' ≠ b) (hn : w.heap.size ≤ b') (k : Nat) (v : Value) : Own w b cs t (w1.setCell ⟨b', k, none⟩ v) :=
  ⟨h.bel.setCell hn v, h.n, h.k.other hb v⟩
theorem Own.setAllO {w w1 : World} {b b' : Nat} {cs : List Value} {t : TypeId} (h : Own w b cs t w1) (hb : b' ≠ b) (hn : w.heap.size ≤ b') (o : Nat) (vs : List Value) : Own w b cs t (w1.setCells b' o vs) :=
  ⟨below_setCells h.bel hn o vs, h.n, blk_setOther h.k (Ne.symm hb) o vs⟩
theorem Own.upd {w w1 w2 : World} {b : Nat} {cs cs' : List Value} {t t' : TypeId} (h : Own w b cs t w1) (u : Upd b cs' t' w1 w2) : Own w b cs' t' w2 := ⟨u.below h.bel h.n, h.n, u.c⟩
theorem Own.updO {w w1 w2 : World} {b b' : Nat} {cs cs' : List Value} {t t' : TypeId} (h : Own w b cs t w1) (hb : b' ≠ b) (hn : w.heap.size ≤ b') (u : Upd b' cs' t' w1 w2) : Own w b cs t w2 := ⟨u.below h.bel hn, h.n, u.blk h.k (Ne.symm hb)⟩
theorem Own.cell {w w1 : World} {b : Nat} {cs : List Value} {t : TypeId} (h : Own w b cs t w1) {i : Nat} {v : Value} (hv : cs[i]? = some v) : w1.cell? ⟨b, i, none⟩ = some v := h.k.cellAt hv
theorem Own.fro {w w1 : World} {b : Nat} {cs : List Value} {t : TypeId} (h : Own w b cs t w1) (i : Nat) : w1.frozen? ⟨b, i, none⟩ = false := h.k.unfrozen i
theorem Own.all {w w1 : World} {b : Nat} {cs : List Value} {t : TypeId} (h : Own w b cs t w1) : w1.rangeAt b 0 cs := range_all h.k
theorem Own.there {w w1 : World} {b : Nat} {cs : List Value} {t : TypeId} (h : Own w b cs t w1) {n : Nat} (hn : n ≤ cs.length) : w1.there b 0 n := there_of_blk h.k (by omega)
theorem Own.drew' {w w1 w2 : World} {b : Nat} {cs : List Value} {t : TypeId} (h : Own w b cs t w1) (hm : ∃ n, w2 = w1.drewN n) : Own w b cs t w2 := by
  obtain ⟨n, rfl⟩ := hm
  exact h.drewN n
/-- The most turns of those that are ready, of the first k; the least seat from d on that has so many. -/
def mostF (t : List Int) (r : List Bool) : Nat → Int
  | 0 => -1
  | k + 1 => if r.getD k false = true ∧ mostF t r k < t.getD k 0 then t.getD k 0 else mostF t r k
def wantF (v : List Int) (r : List Bool) (m : Int) : Nat → Int
  | 0 => -1
  | k + 1 => if r.getD (17 - k) false = true ∧ v.getD (17 - k) 0 = m then ((17 - k : Nat) : Int) else wantF v r m k
theorem mostF_succ (t : List Int) (r : List Bool) (k : Nat) : mostF t r (k + 1) = if r.getD k false = true ∧ mostF t r k < t.getD k 0 then t.getD k 0 else mostF t r k := rfl
theorem wantF_succ (v : List Int) (r : List Bool) (m : Int) (k : Nat) : wantF v r m (k + 1) = if r.getD (17 - k) false = true ∧ v.getD (17 - k) 0 = m then ((17 - k : Nat) : Int) else wantF v r m k := rfl
theorem near_ge (l : List Int) (i : Nat) : 0 ≤ (nearL l).getD i 0 := by
  unfold nearL
  rw [List.getD_eq_getElem?_getD, List.getElem?_map]
  cases l[i]? <;> simp
  omega
theorem best_spec (t : List Int) (r : List Bool) (k : Nat) :
    (best t r k < 0 → ∀ i, i < k → r.getD i false = false) ∧
    (0 ≤ best t r k → r.getD (best t r k).toNat false = true ∧ (∀ i, i < k → r.getD i false = true → t.getD i 0 ≤ t.getD (best t r k).toNat 0) ∧ (∀ i, i < (best t r k).toNat → r.getD i false = true → t.getD i 0 < t.getD (best t r k).toNat 0)) := by
  induction k with
  | zero => exact ⟨fun _ i h => by omega, fun h => by simp [best] at h⟩
  | succ k ih =>
    have hr := best_range t r k
    rw [best_succ]
    by_cases hc : r.getD k false = true ∧ (best t r k < 0 ∨ t.getD k 0 > t.getD (best t r k).toNat 0)
    · rw [if_pos hc]
      refine ⟨fun h => by omega, fun _ => ?_⟩
      rw [Int.toNat_natCast]
      refine ⟨hc.1, fun i hi hri => ?_, fun i hi hri => ?_⟩
      · by_cases e : i = k
        · subst e; exact Int.le_refl _
        · rcases hc.2 with h | h
          · rw [ih.1 h i (by omega)] at hri; cases hri
          · by_cases hb : best t r k < 0
            · rw [ih.1 hb i (by omega)] at hri; cases hri
            · have := (ih.2 (by omega)).2.1 i (by omega) hri; omega
      · rcases hc.2 with h | h
        · rw [ih.1 h i (by omega)] at hri; cases hri
        · by_cases hb : best t r k < 0
          · rw [ih.1 hb i (by omega)] at hri; cases hri
          · have := (ih.2 (by omega)).2.1 i (by omega) hri; omega
    · rw [if_neg hc]
      refine ⟨fun h i hi => ?_, fun h => ?_⟩
      · by_cases e : i = k
        · subst e
          cases hrk : r.getD i false with
          | false => rfl
          | true => exact absurd ⟨hrk, Or.inl h⟩ hc
        · exact ih.1 h i (by omega)
      · obtain ⟨h1, h2, h3⟩ := ih.2 h
        refine ⟨h1, fun i hi hri => ?_, h3⟩
        by_cases e : i = k
        · subst e
          by_cases hlt : t.getD i 0 > t.getD (best t r i).toNat 0
          · exact absurd ⟨hri, Or.inr hlt⟩ hc
          · omega
        · exact h2 i (by omega) hri
theorem most_best (t : List Int) (r : List Bool) (h0 : ∀ i, 0 ≤ t.getD i 0) (k : Nat) : mostF t r k = if best t r k < 0 then -1 else t.getD (best t r k).toNat 0 := by
  induction k with
  | zero => simp [mostF, best]
  | succ k ih =>
    have hk := h0 k
    have hb := h0 (best t r k).toNat
    rw [mostF, ih, best_succ]
    by_cases hneg : best t r k < 0
    · rw [if_pos hneg]
      by_cases hr : r.getD k false = true
      · have c1 : r.getD k false = true ∧ -1 < t.getD k 0 := ⟨hr, by omega⟩
        have c2 : r.getD k false = true ∧ (best t r k < 0 ∨ t.getD k 0 > t.getD (best t r k).toNat 0) := ⟨hr, Or.inl hneg⟩
        have c3 : ¬ (k : Int) < 0 := by omega
        rw [if_pos c1, if_pos c2, if_neg c3, Int.toNat_natCast]
      · have c1 : ¬ (r.getD k false = true ∧ -1 < t.getD k 0) := fun h => hr h.1
        have c2 : ¬ (r.getD k false = true ∧ (best t r k < 0 ∨ t.getD k 0 > t.getD (best t r k).toNat 0)) := fun h => hr h.1
        rw [if_neg c1, if_neg c2, if_pos hneg]
    · rw [if_neg hneg]
      by_cases hc : r.getD k false = true ∧ t.getD (best t r k).toNat 0 < t.getD k 0
      · have c2 : r.getD k false = true ∧ (best t r k < 0 ∨ t.getD k 0 > t.getD (best t r k).toNat 0) := ⟨hc.1, Or.inr hc.2⟩
        have c3 : ¬ (k : Int) < 0 := by omega
        rw [if_pos hc, if_pos c2, if_neg c3, Int.toNat_natCast]
      · have c2 : ¬ (r.getD k false = true ∧ (best t r k < 0 ∨ t.getD k 0 > t.getD (best t r k).toNat 0)) := fun h => h.2.elim hneg (fun h2 => hc ⟨h.1, h2⟩)
        rw [if_neg hc, if_neg c2, if_neg hneg]
theorem want_best (v : List Int) (r : List Bool) (hb : 0 ≤ best v r 18) (k : Nat) (hk : k ≤ 18) :
    wantF v r (v.getD (best v r 18).toNat 0) k = if best v r 18 ≥ 18 - k then best v r 18 else wantF v r (v.getD (best v r 18).toNat 0) k := by
  have hr := best_range v r 18
  obtain ⟨h1, h2, h3⟩ := (best_spec v r 18).2 hb
  induction k with
  | zero => rw [if_neg (by omega)]
  | succ k ih =>
    by_cases hge : best v r 18 ≥ 18 - ((k + 1 : Nat) : Int)
    · rw [if_pos hge, wantF]
      by_cases e : best v r 18 = ((17 - k : Nat) : Int)
      · have e' : (best v r 18).toNat = 17 - k := by omega
        have c1 : r.getD (17 - k) false = true ∧ v.getD (17 - k) 0 = v.getD (best v r 18).toNat 0 := ⟨by rw [← e']; exact h1, by rw [← e']⟩
        rw [if_pos c1]
        exact e.symm
      · have hlt : 17 - k < (best v r 18).toNat := by omega
        rw [if_neg (by rintro ⟨a, b⟩; have := h3 _ hlt a; omega), ih (by omega), if_pos (by omega)]
    · rw [if_neg hge]
theorem want_18 (v : List Int) (r : List Bool) (hb : 0 ≤ best v r 18) : wantF v r (v.getD (best v r 18).toNat 0) 18 = best v r 18 := by
  rw [want_best v r hb 18 (Nat.le_refl _), if_pos (by omega)]
theorem wantF_step (v : List Int) (r : List Bool) (m : Int) (j : Nat) (hj : j < 18) : wantF v r m (18 - j) = if r.getD j false = true ∧ v.getD j 0 = m then (j : Int) else wantF v r m (18 - (j + 1)) := by
  have e : 18 - j = (17 - j) + 1 := by omega
  have e2 : 18 - (j + 1) = 17 - j := by omega
  have e3 : 17 - (17 - j) = j := by omega
  rw [e, wantF_succ, e2, e3]
theorem full_bound (i : Nat) : 0 ≤ full.getD i 0 ∧ full.getD i 0 ≤ 3 := by
  by_cases hi : i < 18
  · rw [full_get i hi]; omega
  · rw [List.getD_eq_getElem?_getD, List.getElem?_eq_none (by simp [full]; omega)]; decide
theorem mem_bound {u : List Int} (h : ∀ i, 0 ≤ u.getD i 0 ∧ u.getD i 0 ≤ 3) {d : Nat} {y : Int} (hy : 1 ≤ y ∧ y ≤ 3) : ∀ x ∈ u.set d (y - 1), 0 ≤ x ∧ x ≤ 3 := by
  intro x hx
  rcases List.mem_or_eq_of_mem_set hx with h1 | h1
  · obtain ⟨i, hi, rfl⟩ := List.getElem_of_mem h1
    have := h i
    rw [List.getD_eq_getElem?_getD, List.getElem?_eq_getElem hi] at this
    simpa using this
  · omega
/-- What a pick comes to. -/
theorem pick_none {t : List Int} {r : List Bool} (h : best t r 18 < 0) : pick t r = (t, -1) ∧ ∀ i, i < 18 → r.getD i false = false :=
  ⟨by unfold pick; rw [if_pos h], (best_spec t r 18).1 h⟩
theorem pick_some {t : List Int} {r : List Bool} (h : 0 ≤ best t r 18) : ∃ (u : List Int) (b : Nat), b < 18 ∧ r.getD b false = true ∧ pick t r = (u.set b (u.getD b 0 - 1), (b : Int)) ∧
    (∀ i, i < 18 → r.getD i false = true → u.getD i 0 ≤ u.getD b 0) ∧ 1 ≤ u.getD b 0 ∧ (u = t ∨ (u = full ∧ ∀ i, i < 18 → r.getD i false = true → t.getD i 0 ≤ 0)) := by
  have hr := best_range t r 18
  obtain ⟨h1, h2, h3⟩ := (best_spec t r 18).2 h
  obtain ⟨d, hd⟩ : ∃ d : Nat, best t r 18 = (d : Int) := ⟨(best t r 18).toNat, by omega⟩
  unfold pick
  rw [if_neg (by omega)]
  rw [hd] at hr h1 h2 h3 ⊢
  rw [Int.toNat_natCast] at h1 h2 h3 ⊢
  by_cases h0 : t.getD d 0 ≤ 0
  · have hf : 0 ≤ best full r 18 := by
      rcases Int.lt_or_le (best full r 18) 0 with hf | hf
      · have := (best_spec full r 18).1 hf d (by omega)
        rw [this] at h1; cases h1
      · exact hf
    have hr2 := best_range full r 18
    obtain ⟨k1, k2, k3⟩ := (best_spec full r 18).2 hf
    obtain ⟨e, he⟩ : ∃ e : Nat, best full r 18 = (e : Int) := ⟨(best full r 18).toNat, by omega⟩
    rw [if_pos h0, if_neg (by omega)]
    unfold pickOnce
    rw [he] at hr2 k1 k2 k3 ⊢
    rw [Int.toNat_natCast] at k1 k2 k3 ⊢
    exact ⟨full, e, by omega, k1, rfl, k2, by rw [full_get e (by omega)]; omega, .inr ⟨rfl, fun i hi hri => Int.le_trans (h2 i hi hri) h0⟩⟩
  · rw [if_neg h0]
    unfold pickOnce
    rw [hd, Int.toNat_natCast]
    exact ⟨t, d, by omega, h1, rfl, h2, by omega, .inl rfl⟩
theorem getD_set_self {l : List Int} {b : Nat} {v : Int} (h : b < l.length) : (l.set b v).getD b 0 = v := by
  rw [List.getD_eq_getElem?_getD, List.getElem?_set_self h]; rfl
theorem getD_set_ne {l : List Int} {b i : Nat} {v : Int} (h : b ≠ i) : (l.set b v).getD i 0 = l.getD i 0 := by
  rw [List.getD_eq_getElem?_getD, List.getElem?_set_ne h, List.getD_eq_getElem?_getD]
/-- Turns that are even. -/
structure Even (r : List Bool) (t n : List Int) (s : Nat) : Prop where
  tl : t.length = 18
  nl : n.length = 18
  bd : ∀ i, 0 ≤ t.getD i 0 ∧ t.getD i 0 ≤ 3
  nb : ∀ i, 0 ≤ n.getD i 0 ∧ n.getD i 0 ≤ s
  ev : ∃ R : Int, ∀ i, i < 18 → r.getD i false = true → n.getD i 0 + t.getD i 0 = 3 * R
  cl : ∀ i j, i < 18 → j < 18 → r.getD i false = true → r.getD j false = true → t.getD i 0 ≤ t.getD j 0 + 1
  no : ∀ i, i < 18 → r.getD i false = false → n.getD i 0 = 0
theorem zeros_get (i : Nat) : (List.replicate 18 (0 : Int)).getD i 0 = 0 := by
  rw [List.getD_eq_getElem?_getD, List.getElem?_replicate]; split <;> rfl
theorem Even.zero (r : List Bool) : Even r (List.replicate 18 0) (List.replicate 18 0) 0 := by
  refine ⟨by simp, by simp, fun i => ?_, fun i => ?_, ⟨0, fun i _ _ => ?_⟩, fun i j _ _ _ _ => ?_, fun i _ _ => ?_⟩
  all_goals simp only [zeros_get]
  all_goals decide
theorem bd_set {u : List Int} (h : ∀ i, 0 ≤ u.getD i 0 ∧ u.getD i 0 ≤ 3) (hl : u.length = 18) {b : Nat} (hb : b < 18) (h1 : 1 ≤ u.getD b 0) (i : Nat) : 0 ≤ (u.set b (u.getD b 0 - 1)).getD i 0 ∧ (u.set b (u.getD b 0 - 1)).getD i 0 ≤ 3 := by
  have h2 := h b
  by_cases e : b = i
  · subst e
    rw [getD_set_self (by omega)]; omega
  · rw [getD_set_ne e]; exact h i
theorem full_len : full.length = 18 := rfl
theorem Even.step {r : List Bool} {t n : List Int} {s : Nat} (h : Even r t n s) (hb : 0 ≤ best t r 18) : ∃ b : Nat, b < 18 ∧ (pick t r).2 = (b : Int) ∧ Even r (pick t r).1 (n.set b (n.getD b 0 + 1)) (s + 1) := by
  obtain ⟨u, b, hb18, hrb, hp, hmax, hpos, hu⟩ := pick_some hb
  obtain ⟨tl, nl, bd, nb, ⟨R, ev⟩, cl, no⟩ := h
  refine ⟨b, hb18, by rw [hp], ?_⟩
  rw [hp]
  have ul : u.length = 18 := by rcases hu with rfl | ⟨rfl, _⟩ <;> first | exact tl | rfl
  have ub : ∀ i, 0 ≤ u.getD i 0 ∧ u.getD i 0 ≤ 3 := by rcases hu with rfl | ⟨rfl, _⟩ <;> first | exact bd | exact full_bound
  have ue : ∃ R : Int, ∀ i, i < 18 → r.getD i false = true → n.getD i 0 + u.getD i 0 = 3 * R := by
    rcases hu with rfl | ⟨rfl, h0⟩
    · exact ⟨R, ev⟩
    · refine ⟨R + 1, fun i hi hri => ?_⟩
      have h1 := h0 i hi hri
      have h2 := bd i
      have h3 := ev i hi hri
      rw [full_get i hi]; omega
  have uc : ∀ i j, i < 18 → j < 18 → r.getD i false = true → r.getD j false = true → u.getD i 0 ≤ u.getD j 0 + 1 := by
    rcases hu with rfl | ⟨rfl, h0⟩
    · exact cl
    · intro i j hi hj _ _
      rw [full_get i hi, full_get j hj]; omega
  obtain ⟨R', ue⟩ := ue
  clear hu ev cl hp
  refine ⟨by simp [ul], by simp [nl], fun i => bd_set ub ul hb18 hpos i, fun i => ?_, ⟨R', fun i hi hri => ?_⟩, fun i j hi hj hri hrj => ?_, fun i hi hri => ?_⟩
  · have h1 := nb i
    by_cases e : b = i
    · subst e; rw [getD_set_self (by omega)]; omega
    · rw [getD_set_ne e]; omega
  · have h1 := ue i hi hri
    by_cases e : b = i
    · subst e; rw [getD_set_self (by omega), getD_set_self (by omega)]; omega
    · rw [getD_set_ne e, getD_set_ne e]; exact h1
  · have h1 := uc i j hi hj hri hrj
    have h2 := hmax i hi hri
    have h3 := hmax j hj hrj
    by_cases e : b = i
    · subst e
      rw [getD_set_self (by omega)]
      by_cases e2 : b = j
      · subst e2; rw [getD_set_self (by omega)]; omega
      · rw [getD_set_ne e2]; omega
    · rw [getD_set_ne e]
      by_cases e2 : b = j
      · subst e2; rw [getD_set_self (by omega)]; omega
      · rw [getD_set_ne e2]; exact h1
  · have e : b ≠ i := fun e => by subst e; rw [hri] at hrb; cases hrb
    rw [getD_set_ne e]; exact no i hi hri
theorem Even.fin {r : List Bool} {t n : List Int} {s : Nat} (h : Even r t n s) {i j : Nat} (hi : i < 18) (hj : j < 18) :
    ¬ (r.getD i false = true ∧ r.getD j false = true ∧ n.getD j 0 + 1 < n.getD i 0) ∧ ¬ (r.getD i false = false ∧ 0 < n.getD i 0) := by
  obtain ⟨tl, nl, bd, nb, ⟨R, ev⟩, cl, no⟩ := h
  constructor
  · rintro ⟨h1, h2, h3⟩
    have := ev i hi h1
    have := ev j hj h2
    have := cl j i hj hi h2 h1
    omega
  · rintro ⟨h1, h2⟩
    have := no i hi h1
    omega
/-- None is ready: no bit. -/
theorem ready_zero {q : Int} (hq : 0 ≤ q) (h : ∀ i, i < 18 → (readyL q).getD i false = false) : q % 262144 = 0 := by
  obtain ⟨m, rfl⟩ := Int.eq_ofNat_of_zero_le hq
  have hb : ∀ i, i < 18 → m.testBit i = false := by
    intro i hi
    have h1 := h i hi
    unfold readyL at h1
    rw [List.getD_eq_getElem?_getD, List.getElem?_map, List.getElem?_range hi] at h1
    simp only [Option.map_some, Option.getD_some, beq_eq_false_iff_ne, ne_eq] at h1
    rw [Nat.testBit_eq_decide_div_mod_eq]
    simp only [decide_eq_false_iff_not]
    intro h2
    refine h1 ?_
    have e : ((2 : Int) ^ i) = ((2 ^ i : Nat) : Int) := by simp
    rw [e]
    omega
  have h0 : m % 2 ^ 18 = 0 := by
    apply Nat.eq_of_testBit_eq
    intro i
    rw [Nat.testBit_mod_two_pow, Nat.zero_testBit]
    by_cases hi : i < 18
    · rw [hb i hi]; simp
    · simp [hi]
  omega
/-- Sums over the seats. -/
def sumTo (c : Nat → Nat) : Nat → Nat
  | 0 => 0
  | k + 1 => sumTo c k + c k
theorem sumTo_le {c d : Nat → Nat} {k : Nat} (h : ∀ i, i < k → c i ≤ d i) : sumTo c k ≤ sumTo d k := by
  induction k with
  | zero => exact Nat.le_refl _
  | succ k ih => exact Nat.add_le_add (ih (fun i hi => h i (by omega))) (h k (by omega))
theorem sumTo_mul (c : Nat → Nat) (m k : Nat) : sumTo (fun i => m * c i) k = m * sumTo c k := by
  induction k with
  | zero => rfl
  | succ k ih => simp only [sumTo, ih, Nat.mul_add]
theorem sumTo_bump {c : Nat → Nat} {b k : Nat} (h : b < k) : sumTo (fun i => if i = b then c i + 1 else c i) k = sumTo c k + 1 := by
  induction k with
  | zero => omega
  | succ k ih =>
    simp only [sumTo]
    by_cases e : k = b
    · subst e
      rw [if_pos rfl]
      have : sumTo (fun i => if i = k then c i + 1 else c i) k = sumTo c k := by
        have : ∀ m, m ≤ k → sumTo (fun i => if i = k then c i + 1 else c i) m = sumTo c m := by
          intro m
          induction m with
          | zero => exact fun _ => rfl
          | succ m ihm => intro hm; simp only [sumTo]; rw [ihm (by omega), if_neg (by omega)]
        exact this k (Nat.le_refl _)
      omega
    · rw [if_neg e, ih (by omega)]; omega
theorem sumTo_zero (k : Nat) : sumTo (fun _ => 0) k = 0 := by
  induction k with
  | zero => rfl
  | succ k ih => simp [sumTo, ih]
/-- How many are. -/
def cnt (e : List Bool) : Nat → Nat := sumTo fun i => (e.getD i false).toNat
theorem cnt_succ (e : List Bool) (k : Nat) : cnt e (k + 1) = cnt e k + (e.getD k false).toNat := rfl
theorem cnt_le (e : List Bool) (k : Nat) : cnt e k ≤ k := by
  induction k with
  | zero => exact Nat.le_refl _
  | succ k ih => rw [cnt_succ]; have := Bool.toNat_le (e.getD k false); omega
/-- Who waits: how often each other one was picked meanwhile. -/
structure Fair (k : Nat) (t : List Int) (e : List Bool) (wt : Nat) : Prop where
  tl : t.length = 18
  bd : ∀ i, 0 ≤ t.getD i 0 ∧ t.getD i 0 ≤ 3
  c : ∃ c : Nat → Nat, wt = sumTo c 18 ∧ (∀ i, i < 18 → 0 < c i → e.getD i false = true) ∧
    ((∀ i, i < 18 → i ≠ k → (c i : Int) + t.getD i 0 ≤ 3) ∨ (t.getD k 0 = 3 ∧ ∀ i, i < 18 → i ≠ k → (c i : Int) + t.getD i 0 ≤ 6)) ∧ c k = 0
theorem Fair.zero {k : Nat} {t : List Int} (e : List Bool) (tl : t.length = 18) (bd : ∀ i, 0 ≤ t.getD i 0 ∧ t.getD i 0 ≤ 3) : Fair k t e 0 :=
  ⟨tl, bd, fun _ => 0, (sumTo_zero 18).symm, fun i _ h => absurd h (Nat.lt_irrefl 0), .inl (fun i _ _ => by have := bd i; show ((0 : Nat) : Int) + _ ≤ 3; omega), rfl⟩
/-- All that were ever ready, and are now. -/
def orL (e r : List Bool) : List Bool := (List.range 18).map fun i => e.getD i false || r.getD i false
theorem orL_get {e r : List Bool} {i : Nat} (hi : i < 18) : (orL e r).getD i false = (e.getD i false || r.getD i false) := by
  unfold orL
  rw [List.getD_eq_getElem?_getD, List.getElem?_map, List.getElem?_range hi]; rfl
theorem Fair.step {k : Nat} {t : List Int} {e r : List Bool} {wt : Nat} (h : Fair k t e wt) (hk : k < 18) (hrk : r.getD k false = true) :
    ∃ b : Nat, b < 18 ∧ (pick t r).2 = (b : Int) ∧ r.getD b false = true ∧ Fair k (pick t r).1 (orL e r) (if b = k then 0 else wt + 1) ∧ (if b = k then 0 else wt + 1) ≤ 7 * cnt (orL e r) 18 := by
  obtain ⟨tl, bd, c, hw, hc, hin, ck⟩ := h
  have hb : 0 ≤ best t r 18 := by
    rcases Int.lt_or_le (best t r 18) 0 with hf | hf
    · have := (best_spec t r 18).1 hf k hk
      rw [this] at hrk; cases hrk
    · exact hf
  obtain ⟨u, b, hb18, hrb, hp, hmax, hpos, hu⟩ := pick_some hb
  have ul : u.length = 18 := by rcases hu with rfl | ⟨rfl, _⟩ <;> first | exact tl | rfl
  have ub : ∀ i, 0 ≤ u.getD i 0 ∧ u.getD i 0 ≤ 3 := by rcases hu with rfl | ⟨rfl, _⟩ <;> first | exact bd | exact full_bound
  have hin2 : (∀ i, i < 18 → i ≠ k → (c i : Int) + u.getD i 0 ≤ 3) ∨ (u.getD k 0 = 3 ∧ ∀ i, i < 18 → i ≠ k → (c i : Int) + u.getD i 0 ≤ 6) := by
    rcases hu with rfl | ⟨rfl, h0⟩
    · exact hin
    · have hk0 := h0 k hk hrk
      refine .inr ⟨full_get k hk, fun i hi hne => ?_⟩
      rw [full_get i hi]
      rcases hin with h1 | ⟨h1, _⟩
      · have := h1 i hi hne
        have := bd i
        omega
      · omega
  refine ⟨b, hb18, by rw [hp], hrb, ?_⟩
  rw [hp]
  have nbd := fun i => bd_set ub ul hb18 hpos i
  by_cases ebk : b = k
  · rw [if_pos ebk]
    exact ⟨Fair.zero _ (by simp [ul]) nbd, Nat.zero_le _⟩
  · rw [if_neg ebk]
    have F : Fair k (u.set b (u.getD b 0 - 1)) (orL e r) (wt + 1) := by
      refine ⟨by simp [ul], nbd, fun i => if i = b then c i + 1 else c i, by rw [sumTo_bump hb18, hw], fun i hi h => ?_, ?_, by show (if k = b then c k + 1 else c k) = 0; rw [if_neg (fun h => ebk h.symm)]; exact ck⟩
      · rw [orL_get hi]
        by_cases e1 : i = b
        · subst e1; rw [hrb]; simp
        · have h' : 0 < (if i = b then c i + 1 else c i) := h
          rw [if_neg e1] at h'; rw [hc i hi h']; rfl
      · have hs : ∀ i, ((if i = b then c i + 1 else c i : Nat) : Int) + (u.set b (u.getD b 0 - 1)).getD i 0 = (c i : Int) + u.getD i 0 := by
          intro i
          by_cases e1 : i = b
          · subst e1; rw [if_pos rfl, getD_set_self (by omega)]; omega
          · rw [if_neg e1, getD_set_ne (fun h => e1 h.symm)]
        rcases hin2 with h1 | ⟨h1, h2⟩
        · exact .inl fun i hi hne => by have q1 := hs i; have q2 := h1 i hi hne; show ((if i = b then c i + 1 else c i : Nat) : Int) + _ ≤ 3; omega
        · exact .inr ⟨by rw [getD_set_ne ebk]; exact h1, fun i hi hne => by have q1 := hs i; have q2 := h2 i hi hne; show ((if i = b then c i + 1 else c i : Nat) : Int) + _ ≤ 6; omega⟩
    refine ⟨F, ?_⟩
    obtain ⟨_, _, c', hw', hc', hin', ck'⟩ := F
    rw [hw']
    unfold cnt
    rw [← sumTo_mul]
    apply sumTo_le
    intro i hi
    by_cases e1 : i = k
    · subst e1; rw [ck']; omega
    · have h3 : (c' i : Int) ≤ 6 := by
        have h4 := nbd i
        rcases hin' with h1 | ⟨_, h1⟩
        · have := h1 i hi e1; omega
        · have := h1 i hi e1; omega
      by_cases h5 : 0 < c' i
      · rw [hc' i hi h5]; simp; omega
      · omega
theorem near_le (l : List Int) (hx : ∀ x ∈ l, 0 ≤ x ∧ x ≤ 255) : ∀ i, (nearL l).getD i 0 ≤ 3 := fun i => by
  unfold nearL
  rw [List.getD_eq_getElem?_getD, List.getElem?_map]
  cases l[i]? <;> simp
  omega
theorem sizeU18 : (Try.prog.info? 22).map (·.size) = some 18 := by kernel_rfl
theorem zero_turns (w : World) : (zeroValue 25).run Try.prog w = .ok (.agg ((List.replicate 18 (0 : Int)).map (Value.int .i64)).toArray) w := by kernel_rfl
theorem zero_ints18 (w : World) : (zeroValue 24).run Try.prog w = .ok (.agg ((List.replicate 18 (0 : Int)).map (Value.int .i64)).toArray) w := by kernel_rfl
theorem zero_bools18 (w : World) : (zeroValue 27).run Try.prog w = .ok (.agg ((List.replicate 18 false).map Value.bool).toArray) w := by kernel_rfl
theorem sizeI18 : (Try.prog.info? 24).map (·.size) = some 18 := by kernel_rfl
theorem map_getI {l : List Int} {i : Nat} (h : i < l.length) : (l.map (Value.int .i64))[i]? = some (.int .i64 (l.getD i 0)) := by
  rw [List.getElem?_map, List.getElem?_eq_getElem h]; simp [List.getD, List.getElem?_eq_getElem h]
theorem map_getB {l : List Bool} {i : Nat} (h : i < l.length) : (l.map Value.bool)[i]? = some (.bool (l.getD i false)) := by
  rw [List.getElem?_map, List.getElem?_eq_getElem h]; simp [List.getD, List.getElem?_eq_getElem h]
theorem fillUp_at {vs zs : List Value} (h : vs.length = zs.length) {k : Nat} (hk : k < zs.length) : (fillUp vs zs k)[k]? = zs[k]? := by
  unfold fillUp
  have hl : (vs.take k).length = k := by rw [List.length_take]; omega
  rw [List.getElem?_append_right (by omega), hl, Nat.sub_self, List.getElem?_drop, Nat.add_zero]
theorem fits_u32 {w : World} {v : Value} (h : Fits w (.slice (.int .u32)) [v]) : ∃ l : List Int, Row w (Value.int .u32) v l ∧ l.length ≤ maxLen ∧ ∀ x ∈ l, 0 ≤ x ∧ x ≤ 4294967295 := by
  obtain ⟨l, hr, hm, hw⟩ := fits_row h
  refine ⟨l, hr, hm, fun x hx => ?_⟩
  obtain ⟨n, rfl, hn⟩ := wf_u32 (hw x hx)
  omega
theorem orL_len (e r : List Bool) : (orL e r).length = 18 := by simp [orL]
theorem map_set_bool (t : List Bool) (n : Nat) (x : Bool) : (t.set n x).map Value.bool = (t.map Value.bool).set n (.bool x) := by rw [List.map_set]
theorem getB_self {l : List Bool} {b : Nat} {v : Bool} (h : b < l.length) : (l.set b v).getD b false = v := by
  rw [List.getD_eq_getElem?_getD, List.getElem?_set_self h]; rfl
set_option maxRecDepth 100000 in
set_option maxHeartbeats 4000000 in
theorem fair_calls (l : List Int) (hl : l.length = 18) (hx : ∀ x ∈ l, 0 ≤ x ∧ x ≤ 255) (who : Nat) (hw : who < 256) (v : Value) (os : List Int) (w : World) (hr : Row w (Value.int .u32) v os) (hm : os.length ≤ maxLen) (ho : ∀ x ∈ os, 0 ≤ x ∧ x ≤ 4294967295) :
    Calls Try.prog 4 #[.agg (l.map (Value.int .u8)).toArray, .int .u8 (who : Int), v] w fun e w' => e = .returned (.bool true) ∧ Below w.heap.size w w' := by
  have N1 := Lib.hid (fun w => near_calls l hl hx w)
  have TB : Hid (∀ i, 0 ≤ (nearL l).getD i 0 ∧ (nearL l).getD i 0 ≤ 3) := fun i => ⟨near_ge l i, near_le l hx i⟩
  have TL : Hid ((nearL l).length = 18) := (List.length_map ..).trans hl
  have IU := Lib.hid (show (Try.prog.info? 22).map (·.size) = some (l.map (Value.int .u8)).length by rw [List.length_map, hl, sizeU18])
  generalize nearL l = t0 at *
  have HRO := Lib.hid hr
  have HO := Lib.hid ho
  obtain ⟨av, cv, rfl⟩ := hr.form
  unfold maxLen at hm
  clear hr ho hl hx
  generalize hU : l.map (Value.int .u8) = U at *
  clear hU
  obtain ⟨T0, hT0⟩ : ∃ T0, t0.map (Value.int .i64) = T0 := ⟨_, rfl⟩
  rw [hT0] at N1
  have HT0 := Lib.hid hT0
  have LT0 := Lib.hid (show T0.length = 18 by rw [← hT0, List.length_map, TL.out])
  have OT0 : Hid (∀ v ∈ T0, v.oneCell' = true) := by rw [← hT0]; exact one_ints .i64 _
  have IT0 := Lib.hid (show (Try.prog.info? 25).map (·.size) = some T0.length by rw [LT0.out, size18I])
  clear hT0
  obtain ⟨ZI, hZI⟩ : ∃ ZI, (List.replicate 18 (0 : Int)).map (Value.int .i64) = ZI := ⟨_, rfl⟩
  obtain ⟨ZB, hZB⟩ : ∃ ZB, (List.replicate 18 false).map Value.bool = ZB := ⟨_, rfl⟩
  have hz1 := zero_turns
  have hz3 := zero_bools18
  rw [hZI] at hz1
  rw [hZB] at hz3
  have hs1 : ZI.toArray.size = 18 := by rw [← hZI]; rfl
  have hs2 : ZB.toArray.size = 18 := by rw [← hZB]; rfl
  have hn1 : ¬ ZI.toArray = #[] := fun h => by rw [h] at hs1; simp at hs1
  have hn2 : ¬ ZB.toArray = #[] := fun h => by rw [h] at hs2; simp at hs2
  have LI := Lib.hid (show ZI.length = 18 by simpa using hs1)
  have LB := Lib.hid (show ZB.length = 18 by simpa using hs2)
  have HZB := Lib.hid hZB
  clear hZI hZB
  have U1 := Lib.hid (Own.newL (Below.refl _ w) U 22)
  go_enter Try.func4, Try.ntmps4
  go_upto_region 1 with (fail)
  generalize w.alloc (.cells U.toArray 22) = w1 at *
  go_wp2_with fail
  refine (awake_calls _).mono ?_
  rintro e w2 ⟨rfl, hb⟩
  have U2 := Lib.hid (U1.out.step hb)
  clear hb U1
  by_cases h200 : 200 < os.length
  · have hd : decide (200 < (os.length : Int)) = true := decide_eq_true (by omega)
    go_wp2_with fail
    refine (awake_calls _).mono ?_
    rintro e w3 ⟨rfl, hb⟩
    have U3 := Lib.hid (U2.out.step hb)
    clear hb
    go_wp2_with fail
    go_ret
    exact ⟨rfl, U3.out.bel⟩
  · have hd : decide (200 < (os.length : Int)) = false := decide_eq_false (by omega)
    go_wp2_with (refine wpList_load_mid rfl 22 (.tmp 3) rfl w.heap.size 0 rfl U _ U2.out.all Try.underlying22 rfl IU.out ?_)
    refine (N1.out _).mono ?_
    rintro e w3 ⟨rfl, hb⟩
    have U3 := Lib.hid (U2.out.step hb)
    clear hb U2 N1
    have T4 := Lib.hid (Own.newL U3.out.bel ZI 25)
    go_upto_region 4 with (refine wpList_store_mid rfl 25 (.tmp 7) (.tmp 27) rfl w3.heap.size 0 T0.toArray rfl rfl (T4.out.there ?s1) ?s2 ?s3 ?_)
    case s1 => have := LI.out; have := LT0.out; simp; omega
    case s2 => simpa using IT0.out
    case s3 => first | exact OT0.out | exact all_oneCell_toArray OT0.out
    have T5 := Lib.hid (T4.out.setAll T0 (by rw [LI.out, LT0.out]))
    generalize World.setCells _ _ _ _ = w5 at *
    generalize w3.heap.size = M7 at *
    clear T4 U3
    have hw0 : 0 ≤ (who : Int) := by omega
    have hw1 : (who : Int) < 256 := by omega
    go_upto_region 6 with (fail)
    obtain ⟨k, hk, hk18⟩ : ∃ k : Nat, (who : Int) % 18 = (k : Int) ∧ k < 18 := ⟨who % 18, by omega, by omega⟩
    rw [hk]
    clear hk hw0 hw1
    have hk0 : 0 ≤ (k : Int) := by omega
    have hki : (k : Int) < 18 := by omega
    have E6 := Lib.hid (Own.newL T5.out.bel ZB 27)
    have T6 := Lib.hid (T5.out.alloc (.cells ZB.toArray 27))
    have NE := Lib.hid (show M7 < w5.heap.size from T5.out.lt)
    go_upto_region 7 with (fail)
    generalize w5.alloc (.cells ZB.toArray 27) = w6 at *
    generalize w5.heap.size = M10 at *
    have hck := E6.out.cell (by rw [← HZB.out]; exact map_getB (l := List.replicate 18 false) (i := k) (by simpa using hk18))
    have hfk := E6.out.fro k
    have E7 := Lib.hid (E6.out.set k (.bool true))
    have T7 := Lib.hid (T6.out.setO (Ne.symm (Nat.ne_of_lt NE.out)) E6.out.n k (.bool true))
    rw [← HZB.out, ← map_set_bool] at E7
    go_upto_region 8 with (fail)
    generalize w6.setCell ⟨M10, k, none⟩ (.bool true) = w7 at *
    clear hck hfk E6 T6 T5 HZB
    have LE0 := Lib.hid (show ((List.replicate 18 false).set k true).length = 18 by simp)
    generalize (List.replicate 18 false).set k true = e0 at *
    go_wp2_with fail
    go_loopw [9, 11] (fun q i wr => ∃ (j wt : Nat) (t : List Int) (e : List Bool), j ≤ os.length ∧ i = .int .i64 j ∧ q = .int .i64 wt ∧ Fair k t e wt ∧ e.length = 18 ∧ wt ≤ 126 ∧ Own w M7 (t.map (Value.int .i64)) 25 wr ∧ Own w M10 (e.map Value.bool) 27 wr) (fun _ i _ => os.length - (intOf i).toNat)
    case atStart => exact ⟨0, 0, t0, e0, by omega, rfl, rfl, Fair.zero e0 TL.out TB.out, LE0.out, by omega, by rw [HT0.out]; exact T7.out, E7.out⟩
    case round =>
      clear T7 E7 TB TL
      obtain ⟨j, wt, t, e, hj, rfl, rfl, hf, le, hwt, o1, o2⟩ := hrel
      have TX := Lib.hid o1
      have EX := Lib.hid o2
      have FX := Lib.hid hf
      have LE := Lib.hid le
      clear o1 o2 hf le
      by_cases hlt : j < os.length
      · have hjc : (j : Int) < (os.length : Int) := by omega
        have hj0 : 0 ≤ (j : Int) := by omega
        obtain ⟨ad, rfl, hcp⟩ : ∃ ad, av = some ad ∧ w.cell? (ad.add j) = some (.int .u32 os[j]) := by
          rcases HRO.out with ⟨h, h0⟩ | ⟨ad, c', h, _, hc⟩
          · rw [h0] at hlt; simp at hlt
          · injection h with h1 _ _
            exact ⟨ad, h1, hc j _ (List.getElem?_eq_getElem hlt)⟩
        have cw : wr.cell? (ad.add j) = some (.int .u32 os[j]) := by rw [TX.out.bel.cell (World.block_lt_of_cell? w _ hcp), hcp]
        have hob := HO.out os[j] (List.getElem_mem hlt)
        have RC := Lib.hid (fun W => ready_calls os[j] hob.1 hob.2 W)
        have LR0 : Hid ((readyL os[j]).length = 18) := by show (readyL _).length = 18; simp [readyL]
        generalize readyL os[j] = r0 at *
        generalize os[j] = oj at *
        clear hob hcp
        go_wp2_with fail
        refine (RC.out _).mono ?_
        rintro e1 w8 ⟨rfl, hb⟩
        have T8 := Lib.hid (TX.out.step hb)
        have E8 := Lib.hid (EX.out.step hb)
        clear hb TX EX RC cw
        obtain ⟨R0, hR0⟩ : ∃ R0, r0.map Value.bool = R0 := ⟨_, rfl⟩
        rw [hR0]
        have LR := Lib.hid (show R0.length = 18 by rw [← hR0, List.length_map, LR0.out])
        have OR : Hid (∀ v ∈ R0, v.oneCell' = true) := by rw [← hR0]; exact one_bools _
        have IR := Lib.hid (show (Try.prog.info? 27).map (·.size) = some R0.length by rw [LR.out, size18B])
        have HR0 := Lib.hid hR0
        clear hR0
        have R9 := Lib.hid (Own.newL T8.out.bel ZB 27)
        have T9 := Lib.hid (T8.out.alloc (.cells ZB.toArray 27))
        have E9 := Lib.hid (E8.out.alloc (.cells ZB.toArray 27))
        have N9 : Hid (M7 < w8.heap.size ∧ M10 < w8.heap.size) := ⟨T8.out.lt, E8.out.lt⟩
        go_upto_region 12 with (refine wpList_store_mid rfl 27 (.tmp 12) (.tmp 43) rfl w8.heap.size 0 R0.toArray rfl rfl (R9.out.there ?s1) ?s2 ?s3 ?_)
        case s1 => have := LB.out; have := LR.out; simp; omega
        case s2 => simpa using IR.out
        case s3 => first | exact OR.out | exact all_oneCell_toArray OR.out
        have R10 := Lib.hid (R9.out.setAll R0 (by rw [LB.out, LR.out]))
        have T10 := Lib.hid (T9.out.setAllO (Ne.symm (Nat.ne_of_lt N9.out.1)) R9.out.n 0 R0)
        have E10 := Lib.hid (E9.out.setAllO (Ne.symm (Nat.ne_of_lt N9.out.2)) R9.out.n 0 R0)
        generalize World.setCells _ _ _ _ = w10 at *
        generalize w8.heap.size = M12 at *
        clear R9 T9 E9 T8 E8
        have hck := R10.out.cell (by rw [← HR0.out]; exact map_getB (l := r0) (i := k) (by rw [LR0.out]; exact hk18))
        have hfk := R10.out.fro k
        have R11 := Lib.hid (R10.out.set k (.bool true))
        have T11 := Lib.hid (T10.out.setO (Ne.symm (Nat.ne_of_lt N9.out.1)) R10.out.n k (.bool true))
        have E11 := Lib.hid (E10.out.setO (Ne.symm (Nat.ne_of_lt N9.out.2)) R10.out.n k (.bool true))
        rw [← HR0.out, ← map_set_bool] at R11
        have RK := Lib.hid (getB_self (v := true) (show k < r0.length by rw [LR0.out]; exact hk18))
        have LRR := Lib.hid (show (r0.set k true).length = 18 by rw [List.length_set, LR0.out])
        go_upto_region 13 with (fail)
        generalize w10.setCell ⟨M12, k, none⟩ (.bool true) = w11 at *
        clear hck hfk R10 T10 E10 HR0 LR OR IR
        generalize r0.set k true = r at *
        clear LR0
        have GE := Lib.hid (fun (i : Nat) (hi : i < 18) => map_getB (l := e) (i := i) (by rw [LE.out]; exact hi))
        have GR := Lib.hid (fun (i : Nat) (hi : i < 18) => map_getB (l := r) (i := i) (by rw [LRR.out]; exact hi))
        have GO := Lib.hid (fun (i : Nat) (hi : i < 18) => map_getB (l := orL e r) (i := i) (by rw [orL_len]; exact hi))
        have LVZ := Lib.hid (show ((orL e r).map Value.bool).length = (e.map Value.bool).length by rw [List.length_map, List.length_map, orL_len, LE.out])
        have LZ := Lib.hid (show (e.map Value.bool).length = 18 by rw [List.length_map, LE.out])
        have E12 : Hid (Own w M10 (fillUp ((orL e r).map Value.bool) (e.map Value.bool) 0) 27 w11) := by rw [fillUp_zero]; exact E11.out
        clear E11
        go_wp2_with fail
        go_loopw [13] (fun i wr => ∃ c : Nat, c ≤ 18 ∧ i = .int .i64 c ∧ Own w M7 (t.map (Value.int .i64)) 25 wr ∧ Own w M10 (fillUp ((orL e r).map Value.bool) (e.map Value.bool) c) 27 wr ∧ Own w M12 (r.map Value.bool) 27 wr) (fun i _ => 18 - (intOf i).toNat)
        case atStart => exact ⟨0, by omega, rfl, T11.out, E12.out, R11.out⟩
        case round =>
          clear T11 E12 R11
          obtain ⟨c, hc, rfl, o1, o2, o3⟩ := hrel
          have TX := Lib.hid o1
          have EX := Lib.hid o2
          have RX := Lib.hid o3
          clear o1 o2 o3
          by_cases hc18 : c < 18
          · have hc0 : 0 ≤ (c : Int) := by omega
            have hci : (c : Int) < 18 := by omega
            have k1 := EX.out.cell ((fillUp_at LVZ.out (k := c) (by rw [LZ.out]; exact hc18)).trans (GE.out c hc18))
            have k2 := RX.out.cell (GR.out c hc18)
            have k3 := EX.out.fro c
            have EY := Lib.hid (EX.out.set c (.bool ((orL e r).getD c false)))
            rw [fillUp_set LVZ.out (by rw [LZ.out]; exact hc18) (GO.out c hc18)] at EY
            have TY := Lib.hid (TX.out.setO (Ne.symm (Nat.ne_of_lt NE.out)) EX.out.n c (.bool ((orL e r).getD c false)))
            have RY := Lib.hid (RX.out.setO (Nat.ne_of_lt N9.out.2) EX.out.n c (.bool ((orL e r).getD c false)))
            have hor := orL_get (e := e) (r := r) hc18
            generalize (orL e r).getD c false = oc at *
            generalize r.getD c false = rc at *
            cases hec : e.getD c false with
            | true =>
              rw [hec] at k1 hor
              obtain rfl : oc = true := by rw [hor]; rfl
              clear hec hor
              go_wp2_with fail
              go_roundw
              case rel => exact ⟨c + 1, by omega, by go_num, TY.out, EY.out, RY.out⟩
              case measure => simp [intOf]; omega
            | false =>
              rw [hec] at k1 hor
              obtain rfl : oc = rc := by rw [hor]; rfl
              clear hec hor
              go_wp2_with fail
              go_roundw
              case rel => exact ⟨c + 1, by omega, by go_num, TY.out, EY.out, RY.out⟩
              case measure => simp [intOf]; omega
          · obtain rfl : c = 18 := by omega
            have hfa := fillUp_all LVZ.out
            rw [LZ.out] at hfa
            rw [hfa] at EX
            clear hfa hc hc18
            obtain ⟨b, hb18, hpb, hrb, hF, hle⟩ := FX.out.step (e := e) (r := r) hk18 RK.out
            have PC := Lib.hid (pick_calls t r FX.out.tl LRR.out (fun i => (FX.out.bd i).2))
            have LP := Lib.hid (pick_length t r FX.out.tl)
            rw [hpb] at PC
            have F2 := Lib.hid hF
            have KB := Lib.hid (GR.out b hb18)
            rw [hrb] at KB
            have TLT := Lib.hid FX.out.tl
            clear hpb hF hrb GE GR LVZ LZ FX RK
            have OE := Lib.hid (orL_len e r)
            generalize orL e r = e2 at *
            obtain ⟨V, hV⟩ : ∃ V, (pick t r).1.map (Value.int .i64) = V := ⟨_, rfl⟩
            rw [hV] at PC
            have LV := Lib.hid (show V.length = 18 by rw [← hV, List.length_map, LP.out])
            have OV : Hid (∀ v ∈ V, v.oneCell' = true) := by rw [← hV]; exact one_ints .i64 _
            have IV := Lib.hid (show (Try.prog.info? 25).map (·.size) = some V.length by rw [LV.out, size18I])
            have HV := Lib.hid hV
            clear hV
            obtain ⟨TC, hTC⟩ : ∃ TC, t.map (Value.int .i64) = TC := ⟨_, rfl⟩
            rw [hTC] at PC TX
            have LTC := Lib.hid (show TC.length = 18 by rw [← hTC, List.length_map, TLT.out])
            have IT := Lib.hid (show (Try.prog.info? 25).map (·.size) = some TC.length by rw [LTC.out, size18I])
            clear hTC
            obtain ⟨RC, hRC⟩ : ∃ RC, r.map Value.bool = RC := ⟨_, rfl⟩
            rw [hRC] at PC RX KB
            have IR := Lib.hid (show (Try.prog.info? 27).map (·.size) = some RC.length by rw [← hRC, List.length_map, LRR.out, size18B])
            clear hRC
            have GE2 := Lib.hid (fun (i : Nat) (hi : i < 18) => map_getB (l := e2) (i := i) (by rw [OE.out]; exact hi))
            generalize hECe : e2.map Value.bool = EC at *
            have HEC := Lib.hid hECe
            clear hECe
            go_wp2_with (first | refine wpList_load_mid rfl 25 (.tmp 7) rfl M7 0 rfl TC _ TX.out.all Try.underlying25 rfl IT.out ?_ | refine wpList_load_mid rfl 27 (.tmp 12) rfl M12 0 rfl RC _ RX.out.all Try.underlying27 rfl IR.out ?_)
            refine (PC.out _).mono ?_
            rintro e3 w13 ⟨rfl, hb⟩
            have TY := Lib.hid (TX.out.step hb)
            have EY := Lib.hid (EX.out.step hb)
            have RY := Lib.hid (RX.out.step hb)
            clear hb TX EX RX PC
            have D14 := Lib.hid (Own.newL TY.out.bel ZI 25)
            have T14 := Lib.hid (TY.out.alloc (.cells ZI.toArray 25))
            have E14 := Lib.hid (EY.out.alloc (.cells ZI.toArray 25))
            have R14 := Lib.hid (RY.out.alloc (.cells ZI.toArray 25))
            have S14 : Hid (M7 < w13.heap.size ∧ M10 < w13.heap.size ∧ M12 < w13.heap.size) := ⟨TY.out.lt, EY.out.lt, RY.out.lt⟩
            go_upto_region 19 with (refine wpList_store_mid rfl 25 (.tmp 15) (.tmp 64) rfl w13.heap.size 0 V.toArray rfl rfl (D14.out.there ?s1) ?s2 ?s3 ?_)
            case s1 => have := LV.out; have := LI.out; simp; omega
            case s2 => simpa using IV.out
            case s3 => first | exact OV.out | exact all_oneCell_toArray OV.out
            have D15 := Lib.hid (D14.out.setAll V (by rw [LV.out, LI.out]))
            have T15 := Lib.hid (T14.out.setAllO (Ne.symm (Nat.ne_of_lt S14.out.1)) D14.out.n 0 V)
            have E15 := Lib.hid (E14.out.setAllO (Ne.symm (Nat.ne_of_lt S14.out.2.1)) D14.out.n 0 V)
            have R15 := Lib.hid (R14.out.setAllO (Ne.symm (Nat.ne_of_lt S14.out.2.2)) D14.out.n 0 V)
            generalize World.setCells _ _ _ _ = w15 at *
            generalize w13.heap.size = M15 at *
            clear D14 T14 E14 R14 TY EY RY
            go_upto_region 20 with (first | refine wpList_load_mid rfl 25 (.tmp 15) rfl M15 0 rfl V _ D15.out.all Try.underlying25 rfl IV.out ?_ | refine wpList_store_mid rfl 25 (.tmp 7) (.tmp 66) rfl M7 0 V.toArray rfl rfl (T15.out.there ?s1) ?s2 ?s3 ?_)
            case s1 => have := LV.out; have := LTC.out; simp; omega
            case s2 => simpa using IV.out
            case s3 => first | exact OV.out | exact all_oneCell_toArray OV.out
            have T16 := Lib.hid (T15.out.setAll V (by rw [LV.out, LTC.out]))
            have E16 := Lib.hid (E15.out.setAllO (Nat.ne_of_lt NE.out) T15.out.n 0 V)
            have R16 := Lib.hid (R15.out.setAllO (Nat.ne_of_lt N9.out.1) T15.out.n 0 V)
            generalize World.setCells _ _ _ _ = w16 at *
            clear D15 T15 E15 R15
            have hb0 : 0 ≤ (b : Int) := by omega
            have hbi : (b : Int) < 18 := by omega
            have CN := Lib.hid (cnt_le e2)
            have CS := Lib.hid (cnt_succ e2)
            go_wp2_with fail
            go_loopw [14, 17] (fun n i wr => ∃ c : Nat, c ≤ 18 ∧ i = .int .i64 c ∧ n = .int .i64 (cnt e2 c : Nat) ∧ wr = w16) (fun _ i _ => 18 - (intOf i).toNat)
            case atStart => exact ⟨0, by omega, rfl, rfl, rfl⟩
            case round =>
              obtain ⟨c, hc, rfl, rfl, rfl⟩ := hrel
              have hcn := CN.out c
              by_cases hc18 : c < 18
              · have hc0 : 0 ≤ (c : Int) := by omega
                have hci : (c : Int) < 18 := by omega
                have k1 := E16.out.cell (GE2.out c hc18)
                have cs := Lib.hid (CS.out c)
                generalize cnt e2 c = n at *
                cases hec : e2.getD c false with
                | true =>
                  rw [hec] at k1 cs
                  clear hec
                  go_wp2_with fail
                  go_roundw
                  case rel => exact ⟨c + 1, by omega, by go_num, by rw [cs.out]; rfl, by trivial⟩
                  case measure => simp [intOf]; omega
                | false =>
                  rw [hec] at k1 cs
                  clear hec
                  go_wp2_with fail
                  go_roundw
                  case rel => exact ⟨c + 1, by omega, by go_num, by rw [cs.out]; rfl, by trivial⟩
                  case measure => simp [intOf]; omega
              · obtain rfl : c = 18 := by omega
                have hle18 : cnt e2 18 ≤ 18 := hcn
                generalize cnt e2 18 = n at *
                obtain ⟨nI, hnI⟩ : ∃ nI : Int, (n : Int) = nI := ⟨_, rfl⟩
                obtain ⟨wI, hwI⟩ : ∃ wI : Int, (wt : Int) = wI := ⟨_, rfl⟩
                have n0 : 0 ≤ nI := by omega
                have n18 : nI ≤ 18 := by omega
                have v0 : 0 ≤ wI := by omega
                have v126 : wI ≤ 126 := by omega
                rw [hnI, hwI]
                have HNI := Lib.hid hnI
                have HWI := Lib.hid hwI
                clear hc hc18 hnI hwI hcn hle18
                have kb := R16.out.cell KB.out
                by_cases ebk : b = k
                · subst ebk
                  rw [if_pos rfl] at F2
                  clear hle hwt
                  go_wp2_with fail
                  go_roundw
                  case rel => exact ⟨j + 1, 0, (pick t r).1, e2, by omega, by go_num, rfl, F2.out, OE.out, by omega, by rw [HV.out]; exact T16.out, by rw [HEC.out]; exact E16.out⟩
                  case measure => simp [intOf]; omega
                · rw [if_neg ebk] at F2 hle
                  have hne : ((b : Int) == (k : Int)) = false := by simp; omega
                  have hd7 : ¬ 7 * nI < wI + 1 := by have := HNI.out; have := HWI.out; omega
                  have HLE := Lib.hid hle
                  have HWT := Lib.hid hwt
                  clear hle hwt
                  go_wp2_with fail
                  go_roundw
                  case rel => exact ⟨j + 1, wt + 1, (pick t r).1, e2, by omega, by go_num, by rw [← HWI.out]; go_num, F2.out, OE.out, by have := HLE.out; have := HNI.out; omega, by rw [HV.out]; exact T16.out, by rw [HEC.out]; exact E16.out⟩
                  case measure => simp [intOf]; omega
      · obtain rfl : j = os.length := by omega
        go_wp2_with fail
        go_ret
        exact ⟨rfl, TX.out.bel⟩
theorem fair_walk (c0 : List Value) (a1 : Int) (v2 : Value) (w : World) (f0 : Fits w (.rep 18 (.int .u8)) c0) (w1 : (Lit.int .u8 a1).wf = true) (f2 : Fits w (.slice (.int .u32)) [v2]) :
    Calls Try.prog 4 #[.agg c0.toArray, .int .u8 a1, v2] w fun e w' => e = .returned (.bool true) ∧ Below w.heap.size w w' := by
  obtain ⟨l, hl, rfl, hx⟩ := fits_ints f0
  obtain ⟨m, rfl, hm⟩ := Bits.wf_u8 w1
  obtain ⟨os, hr, hm2, ho⟩ := fits_u32 f2
  refine fair_calls l hl (fun x hx1 => ?_) m hm v2 os w hr hm2 ho
  obtain ⟨n, rfl, hn⟩ := Bits.wf_u8 (hx x hx1)
  omega
end Go.Proofs.Yteimdlndcpmfoaa.Walks
