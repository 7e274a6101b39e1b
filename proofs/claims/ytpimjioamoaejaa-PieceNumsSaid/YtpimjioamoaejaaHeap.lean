/- Blocks of memory as lists of values; rows of bytes and words that came in, or were made; worlds in which all that was there stands as it did. -/
import Derived.WalkKit
import Derived.Deep.QuietTactic
import Derived.Test.YtpimjioamoaejaaBits
namespace Go.Proofs.Ytpimjioamoaejaa.Heap
open Go Go.RowKit

/-- Block b holds these cells. -/
def Blk (w : World) (b : Nat) (cs : List Value) (t : TypeId) : Prop := w.heap[b]? = some (.cells cs.toArray t (0, 0))
theorem Blk.lt {w : World} {b : Nat} {cs : List Value} {t : TypeId} (h : Blk w b cs t) : b < w.heap.size := by
  rcases Nat.lt_or_ge b w.heap.size with h1 | h1
  · exact h1
  · unfold Blk at h; rw [Array.getElem?_eq_none h1] at h; cases h
theorem Blk.cell {w : World} {b : Nat} {cs : List Value} {t : TypeId} (h : Blk w b cs t) (i : Nat) : w.cell? ⟨b, i, none⟩ = cs[i]? := by
  unfold Blk at h; simp [World.cell?, h]
theorem Blk.cellAt {w : World} {b : Nat} {cs : List Value} {t : TypeId} (h : Blk w b cs t) {i : Nat} {v : Value} (hv : cs[i]? = some v) : w.cell? ⟨b, i, none⟩ = some v := by
  rw [h.cell i, hv]
theorem Blk.unfrozen {w : World} {b : Nat} {cs : List Value} {t : TypeId} (h : Blk w b cs t) (i : Nat) : w.frozen? ⟨b, i, none⟩ = false := by
  unfold Blk at h; simp [World.frozen?, h]
theorem Blk.set {w : World} {b : Nat} {cs : List Value} {t : TypeId} (h : Blk w b cs t) (i : Nat) (v : Value) : Blk (w.setCell ⟨b, i, none⟩ v) b (cs.set i v) t := by
  unfold Blk at *
  simp only [World.setCell, Array.getElem?_modify, if_pos, h, Option.map_some]
  simp
theorem Blk.move {w w' : World} {b : Nat} {cs : List Value} {t : TypeId} (h : Blk w b cs t) (hk : w'.heap[b]? = w.heap[b]?) : Blk w' b cs t := hk.trans h
theorem Blk.below {w w' : World} {B b : Nat} {cs : List Value} {t : TypeId} (h : Blk w b cs t) (hb : Below B w w') (hlt : b < B) : Blk w' b cs t := h.move (hb.block b hlt)
theorem Blk.alloc {w : World} {b : Nat} {cs : List Value} {t : TypeId} (h : Blk w b cs t) (o : Obj) : Blk (w.alloc o) b cs t := h.move (Below.heap_alloc w o b h.lt)
theorem Blk.drewN {w : World} {b : Nat} {cs : List Value} {t : TypeId} (h : Blk w b cs t) (n : Nat) : Blk (w.drewN n) b cs t := h
theorem Blk.new (w : World) (cs : Array Value) (t : TypeId) : Blk (w.alloc (.cells cs t)) w.heap.size cs.toList t := by
  unfold Blk
  show (w.heap.push _)[w.heap.size]? = _
  simp
theorem Blk.other {w : World} {b : Nat} {cs : List Value} {t : TypeId} (h : Blk w b cs t) {a : Addr} (ha : a.block ≠ b) (v : Value) : Blk (w.setCell a v) b cs t :=
  h.move (Below.heap_setCell w a v b (fun e => ha e.symm))
theorem below_drewN {B : Nat} {a w : World} (h : Below B a w) (n : Nat) : Below B a (w.drewN n) := ⟨h.os, h.tape, h.output, h.size, h.block⟩

/-- But for the blocks of S, what was there stands as it did. -/
structure Keep (S : Nat → Prop) (w w' : World) : Prop where
  os : w'.os = w.os
  tape : w'.tape = w.tape
  output : w'.output = w.output
  size : w.heap.size ≤ w'.heap.size
  block : ∀ k, k < w.heap.size → ¬ S k → w'.heap[k]? = w.heap[k]?
theorem Keep.refl (S : Nat → Prop) (w : World) : Keep S w w := ⟨rfl, rfl, rfl, Nat.le_refl _, fun _ _ _ => rfl⟩
theorem Keep.trans {S : Nat → Prop} {a b c : World} (h : Keep S a b) (k : Keep S b c) : Keep S a c :=
  ⟨k.os.trans h.os, k.tape.trans h.tape, k.output.trans h.output, Nat.le_trans h.size k.size, fun i hi hs => (k.block i (Nat.lt_of_lt_of_le hi h.size) hs).trans (h.block i hi hs)⟩
theorem Keep.mono {S S' : Nat → Prop} {a b : World} (h : Keep S a b) (hs : ∀ k, k < a.heap.size → S k → S' k) : Keep S' a b := ⟨h.os, h.tape, h.output, h.size, fun k hk hn => h.block k hk (fun h' => hn (hs k hk h'))⟩
/-- A step whose own blocks are the elder ones', or were made since. -/
theorem Keep.step {S S' : Nat → Prop} {a b c : World} (h : Keep S a b) (k : Keep S' b c) (hs : ∀ i, i < a.heap.size → S' i → S i) : Keep S a c :=
  ⟨k.os.trans h.os, k.tape.trans h.tape, k.output.trans h.output, Nat.le_trans h.size k.size, fun i hi hn => (k.block i (Nat.lt_of_lt_of_le hi h.size) (fun h' => hn (hs i hi h'))).trans (h.block i hi hn)⟩
theorem Keep.of_below {S : Nat → Prop} {a b : World} (h : Below a.heap.size a b) : Keep S a b := ⟨h.os, h.tape, h.output, h.size, fun k hk _ => h.block k hk⟩
theorem Keep.below {S : Nat → Prop} {a b : World} (h : Keep S a b) (hs : ∀ k, k < a.heap.size → ¬ S k) : Below a.heap.size a b := ⟨h.os, h.tape, h.output, h.size, fun k hk => h.block k hk (hs k hk)⟩
theorem Keep.belowB {S : Nat → Prop} {a b c : World} {B : Nat} (h : Below B a b) (k : Keep S b c) (hB : B ≤ b.heap.size) (hs : ∀ i, i < B → ¬ S i) : Below B a c :=
  h.trans ⟨k.os, k.tape, k.output, k.size, fun i hi => k.block i (Nat.lt_of_lt_of_le hi hB) (hs i hi)⟩
theorem Keep.alloc {S : Nat → Prop} {a b : World} (h : Keep S a b) (o : Obj) : Keep S a (b.alloc o) :=
  ⟨h.os, h.tape, h.output, Nat.le_trans h.size (by simp), fun k hk hs => (Below.heap_alloc b o k (Nat.lt_of_lt_of_le hk h.size)).trans (h.block k hk hs)⟩
theorem Keep.setCell {S : Nat → Prop} {a b : World} (h : Keep S a b) {p : Addr} (hp : p.block < a.heap.size → S p.block) (v : Value) : Keep S a (b.setCell p v) :=
  ⟨h.os, h.tape, h.output, by simp [World.setCell]; exact h.size, fun k hk hs => (Below.heap_setCell b p v k (fun e => hs (e ▸ hp (e ▸ hk)))).trans (h.block k hk hs)⟩
theorem Keep.drewN {S : Nat → Prop} {a b : World} (h : Keep S a b) (n : Nat) : Keep S a (b.drewN n) := ⟨h.os, h.tape, h.output, h.size, h.block⟩
theorem Blk.keep {S : Nat → Prop} {w w' : World} {b : Nat} {cs : List Value} {t : TypeId} (h : Blk w b cs t) (k : Keep S w w') (hs : ¬ S b) : Blk w' b cs t := h.move (k.block b h.lt hs)

/-- A slice that reads as a list. -/
def Row {α : Type} (w : World) (enc : α → Value) (v : Value) (l : List α) : Prop :=
  (v = .slice none 0 0 ∧ l = []) ∨ ∃ (a : Addr) (cap : Nat), v = .slice (some a) l.length cap ∧ l.length ≤ cap ∧ ∀ i x, l[i]? = some x → w.cell? (a.add i) = some (enc x)
theorem Row.nil {α : Type} (w : World) (enc : α → Value) : Row w enc (.slice none 0 0) [] := .inl ⟨rfl, rfl⟩
theorem Row.below {α : Type} {w w' : World} {enc : α → Value} {v : Value} {l : List α} (h : Row w enc v l) (hb : Below w.heap.size w w') : Row w' enc v l := by
  rcases h with h | ⟨a, cap, rfl, hc, h⟩
  · exact .inl h
  · refine .inr ⟨a, cap, rfl, hc, fun i x hi => ?_⟩
    have h1 := h i x hi
    rw [hb.cell (World.block_lt_of_cell? w _ h1), h1]
theorem Row.drewN {α : Type} {w : World} {enc : α → Value} {v : Value} {l : List α} (h : Row w enc v l) (n : Nat) : Row (w.drewN n) enc v l := h
theorem Row.form {α : Type} {w : World} {enc : α → Value} {v : Value} {l : List α} (h : Row w enc v l) : ∃ a cap, v = .slice a l.length cap := by
  rcases h with ⟨rfl, rfl⟩ | ⟨a, cap, rfl, _, _⟩
  · exact ⟨none, 0, rfl⟩
  · exact ⟨some a, cap, rfl⟩
theorem add_blk (b i : Nat) : (⟨b, 0, none⟩ : Addr).add i = ⟨b, i, none⟩ := by
  unfold Addr.add
  split
  · rename_i h; rw [h]
  · simp
theorem Row.of_blk {α : Type} {w : World} {enc : α → Value} {b : Nat} {l : List α} {t : TypeId} (h : Blk w b (l.map enc) t) : Row w enc (.slice (some ⟨b, 0, none⟩) l.length l.length) l :=
  .inr ⟨⟨b, 0, none⟩, _, rfl, Nat.le_refl _, fun i x hi => by rw [add_blk]; exact h.cellAt (by rw [List.getElem?_map, hi]; rfl)⟩
theorem Row.marked {α : Type} (w : World) (enc : α → Value) (l : List α) (t : TypeId) (fr : Nat × Nat) : Row (w.alloc (.cells (l.map enc).toArray t fr)) enc (.slice (some ⟨w.heap.size, 0, none⟩) l.length l.length) l := by
  refine .inr ⟨⟨w.heap.size, 0, none⟩, _, rfl, Nat.le_refl _, fun i x hi => ?_⟩
  rw [add_blk]
  have h : (w.alloc (.cells (l.map enc).toArray t fr)).heap[w.heap.size]? = some (.cells (l.map enc).toArray t fr) := by
    show (w.heap.push _)[w.heap.size]? = _
    simp
  unfold World.cell?
  rw [h]
  simp [hi]
/-- Of other cells that say the same. -/
theorem Row.map {α β : Type} {w : World} {enc : α → Value} {enc' : β → Value} {v : Value} {l : List α} (f : α → β) (h : Row w enc v l) (he : ∀ x ∈ l, enc x = enc' (f x)) : Row w enc' v (l.map f) := by
  rcases h with ⟨rfl, rfl⟩ | ⟨a, cap, rfl, hc, h⟩
  · exact .inl ⟨rfl, rfl⟩
  · refine .inr ⟨a, cap, by simp, by simpa using hc, fun i x hi => ?_⟩
    rw [List.getElem?_map] at hi
    obtain ⟨y, hy, rfl⟩ := Option.map_eq_some_iff.1 hi
    rw [h i y hy, he y (List.mem_of_getElem? hy)]

def enc8 (n : Nat) : Value := .int .u8 (n : Int)
def enc64 (n : Nat) : Value := .int .u64 (n : Int)
/-- A word's bytes, the lowest first; and back. -/
def leB : Nat → Nat → List Nat
  | 0, _ => []
  | n + 1, v => v % 256 :: leB n (v / 256)
def ofB : List Nat → Nat
  | [] => 0
  | x :: l => x + 256 * ofB l
theorem leB_length (n v : Nat) : (leB n v).length = n := by
  induction n generalizing v with
  | zero => rfl
  | succ n ih => simp [leB, ih]
theorem leB_lt (n v : Nat) : ∀ x ∈ leB n v, x < 256 := by
  induction n generalizing v with
  | zero => intro x hx; cases hx
  | succ n ih =>
    intro x hx
    simp only [leB, List.mem_cons] at hx
    rcases hx with rfl | hx
    · exact Nat.mod_lt _ (by omega)
    · exact ih _ x hx
theorem ofB_leB (n v : Nat) : ofB (leB n v) = v % 256 ^ n := by
  induction n generalizing v with
  | zero => simp [leB, ofB, Nat.mod_one]
  | succ n ih =>
    simp only [leB, ofB, ih]
    rw [Nat.pow_succ', Nat.mod_mul]
theorem ofB_leB8 {v : Nat} (hv : v < 2 ^ 64) : ofB ((leB 8 v).take 8) = v := by
  rw [List.take_of_length_le (by rw [leB_length]; omega), ofB_leB]
  exact Nat.mod_eq_of_lt hv
theorem leB_get (n v i : Nat) (h : i < n) : (leB n v)[i]? = some (v / 256 ^ i % 256) := by
  induction n generalizing v i with
  | zero => omega
  | succ n ih =>
    cases i with
    | zero => simp [leB]
    | succ i =>
      simp only [leB, List.getElem?_cons_succ]
      rw [ih _ _ (by omega), Nat.pow_succ', Nat.div_div_eq_div_mul]
theorem ofB_lt (l : List Nat) (h : ∀ x ∈ l, x < 256) : ofB l < 256 ^ l.length := by
  induction l with
  | nil => simp [ofB]
  | cons x l ih =>
    have h1 := h x (by simp)
    have h2 := ih (fun y hy => h y (by simp [hy]))
    simp only [ofB, List.length_cons]
    rw [Nat.pow_succ']
    omega
theorem ofB_snoc (l : List Nat) (x : Nat) : ofB (l ++ [x]) = ofB l + x * 256 ^ l.length := by
  induction l with
  | nil => simp [ofB]
  | cons y l ih =>
    simp only [List.cons_append, ofB, ih, List.length_cons]
    rw [Nat.pow_succ']
    rw [Nat.mul_add, Nat.add_assoc, ← Nat.mul_assoc, Nat.mul_comm 256 x, Nat.mul_assoc]
end Go.Proofs.Ytpimjioamoaejaa.Heap
