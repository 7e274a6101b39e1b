/- Walks through the functions of the statement, and the statement over them: each contract says what the call answers and that nothing else changes. -/
import Derived.Test.YtiihhpbobebliaaProg


import Derived.Laws.BytesString
import Derived.Test.YtiihhpbobebliaaBits
import Derived.Test.YtiihhpbobebliaaHeap
import Derived.Test.YtiihhpbobebliaaAid
import Derived.Lib.Hide
import Derived.Test.YtiihhpbobebliaaArr
import Derived.Test.YtiihhpbobebliaaEql
import Derived.WalkKit
import Derived.WalkSpells
import Derived.WalkLawsBesides
import Derived.Deep.QuietTactic
import Derived.BigQuiet
import Derived.Deep.RegionHeld3
import Derived.Deep.DeepCutAuto
import Derived.Deep.CutBlock
import Derived.Lib.SlBytesConst
import Derived.StillTailTactics
import Derived.Laws.MakeOwn
import Derived.Deep.AppendLies
import Derived.Laws.CopyOwn
import Derived.RegionTactic
namespace Go.Proofs.Ytiihhpbobebliaa.Walks
set_option linter.unusedVariables false
set_option linter.unusedSimpArgs false
open Go.RowKit Go.Proofs.Ytiihhpbobebliaa.Bits Go.Proofs.Ytiihhpbobebliaa.Heap Go.Proofs.Ytiihhpbobebliaa.Aid Go.Proofs.Ytiihhpbobebliaa.Arr Go.Proofs.Ytiihhpbobebliaa.Eql

/-- The block that holds the instruction, in any later world. -/
structure Inv (w : World) (cs : List Value) (t : TypeId) (w' : World) : Prop where
  b : Below w.heap.size w w'
  k : Blk w' w.heap.size cs t
  z : w.heap.size < w'.heap.size
theorem Inv.step {w w1 w2 : World} {cs : List Value} {t : TypeId} (h : Inv w cs t w1) (hb : Below w1.heap.size w1 w2) : Inv w cs t w2 :=
  ⟨h.b.trans (hb.mono h.b.size), h.k.below hb h.z, Nat.lt_of_lt_of_le h.z hb.size⟩
theorem Inv.drewN {w w1 : World} {cs : List Value} {t : TypeId} (h : Inv w cs t w1) (m : Nat) : Inv w cs t (w1.drewN m) :=
  ⟨below_drewN h.b m, h.k.drewN m, h.z⟩
theorem Inv.new (w : World) (A : Array Value) (t : TypeId) : Inv w A.toList t (w.alloc (.cells A t)) :=
  ⟨(Below.refl _ _).alloc (Nat.le_refl _) _, Blk.new w _ _, by simp⟩
theorem Inv.set {w w1 : World} {cs : List Value} {t : TypeId} (h : Inv w cs t w1) (k : Nat) (v : Value) : Inv w (cs.set k v) t (w1.setCell ⟨w.heap.size, k, none⟩ v) :=
  ⟨h.b.setCell (Nat.le_refl _) v, h.k.set k v, by have := h.z; simpa [World.setCell] using this⟩
theorem Inv.setAll {w w1 : World} {cs : List Value} {t : TypeId} (h : Inv w cs t w1) (vs : List Value) (hl : vs.length = cs.length) : Inv w vs t (w1.setCells w.heap.size 0 vs) :=
  ⟨below_setCells h.b (Nat.le_refl _) 0 vs, blk_setAll h.k hl, by have := h.z; rw [size_setCells]; exact this⟩
/-- A call that writes block b alone (of those that were), which then holds these cells. -/
structure Upd (b : Nat) (cs : List Value) (t : TypeId) (w w' : World) : Prop where
  k : Keep (fun i => i = b) w w'
  c : Blk w' b cs t
theorem Upd.same {b : Nat} {cs : List Value} {t : TypeId} {w : World} (h : Blk w b cs t) : Upd b cs t w w := ⟨Keep.refl _ _, h⟩
theorem Upd.drewN {b : Nat} {cs : List Value} {t : TypeId} {w w' : World} (h : Upd b cs t w w') (n : Nat) : Upd b cs t w (w'.drewN n) := ⟨h.k.drewN n, h.c.drewN n⟩
theorem Upd.set {b : Nat} {cs : List Value} {t : TypeId} {w w' : World} (h : Upd b cs t w w') (i : Nat) (v : Value) : Upd b (cs.set i v) t w (w'.setCell ⟨b, i, none⟩ v) :=
  ⟨h.k.setCell (fun _ => rfl) v, h.c.set i v⟩
theorem Upd.setAll {b : Nat} {cs : List Value} {t : TypeId} {w w' : World} (h : Upd b cs t w w') (vs : List Value) (hl : vs.length = cs.length) : Upd b vs t w (w'.setCells b 0 vs) :=
  ⟨keep_setCells h.k (fun _ => rfl) 0 vs, blk_setAll h.c hl⟩
theorem Upd.trans {b : Nat} {cs cs' : List Value} {t t' : TypeId} {w w' w'' : World} (h : Upd b cs t w w') (k : Upd b cs' t' w' w'') : Upd b cs' t' w w'' := ⟨h.k.trans k.k, k.c⟩
theorem Upd.step {b : Nat} {cs : List Value} {t : TypeId} {w w' w'' : World} (h : Upd b cs t w w') (k : Below w'.heap.size w' w'') : Upd b cs t w w'' :=
  ⟨h.k.step (S' := fun _ => False) (Keep.of_below k) (fun _ _ h => h.elim), h.c.below k h.c.lt⟩
theorem Upd.below {b : Nat} {cs : List Value} {t : TypeId} {w0 w w' : World} (h : Upd b cs t w w') (h0 : Below w0.heap.size w0 w) (hb : w0.heap.size ≤ b) : Below w0.heap.size w0 w' :=
  Keep.belowB h0 h.k h0.size (fun i hi e => by omega)
theorem Upd.blk {b b' : Nat} {cs cs' : List Value} {t t' : TypeId} {w w' : World} (h : Upd b cs t w w') (k : Blk w b' cs' t') (hb : b' ≠ b) : Blk w' b' cs' t' := k.keep h.k hb
theorem Inv.upd {w w1 w2 : World} {cs cs' : List Value} {t t' : TypeId} (h : Inv w cs t w1) (u : Upd w.heap.size cs' t' w1 w2) : Inv w cs' t' w2 :=
  ⟨u.below h.b (Nat.le_refl _), u.c, Nat.lt_of_lt_of_le h.z u.k.size⟩
theorem Inv.other {w w1 w2 : World} {cs cs' : List Value} {t t' : TypeId} {b : Nat} (h : Inv w cs t w1) (u : Upd b cs' t' w1 w2) (hb : w.heap.size < b) : Inv w cs t w2 :=
  ⟨u.below h.b (Nat.le_of_lt hb), u.blk h.k (by omega), Nat.lt_of_lt_of_le h.z u.k.size⟩
/-- A block of the call's own (made since w) that holds these cells; nothing that was there at w has changed. -/
structure Own (w : World) (b : Nat) (cs : List Value) (t : TypeId) (w' : World) : Prop where
  bel : Below w.heap.size w w'
  n : w.heap.size ≤ b
  k : Blk w' b cs t
theorem Own.lt {w w1 : World} {b : Nat} {cs : List Value} {t : TypeId} (h : Own w b cs t w1) : b < w1.heap.size := h.k.lt
theorem Own.new {w w1 : World} (hb : Below w.heap.size w w1) (A : Array Value) (t : TypeId) : Own w w1.heap.size A.toList t (w1.alloc (.cells A t)) :=
  ⟨hb.alloc hb.size _, hb.size, Blk.new w1 _ _⟩
theorem Own.newL {w w1 : World} (hb : Below w.heap.size w w1) (cs : List Value) (t : TypeId) : Own w w1.heap.size cs t (w1.alloc (.cells cs.toArray t)) := Own.new hb cs.toArray t
theorem Own.alloc {w w1 : World} {b : Nat} {cs : List Value} {t : TypeId} (h : Own w b cs t w1) (o : Obj) : Own w b cs t (w1.alloc o) := ⟨h.bel.alloc h.bel.size _, h.n, h.k.alloc o⟩
theorem Own.step {w w1 w2 : World} {b : Nat} {cs : List Value} {t : TypeId} (h : Own w b cs t w1) (hb : Below w1.heap.size w1 w2) : Own w b cs t w2 :=
  ⟨h.bel.trans (hb.mono h.bel.size), h.n, h.k.below hb h.lt⟩
theorem Own.drewN {w w1 : World} {b : Nat} {cs : List Value} {t : TypeId} (h : Own w b cs t w1) (m : Nat) : Own w b cs t (w1.drewN m) := ⟨below_drewN h.bel m, h.n, h.k.drewN m⟩
theorem Own.set {w w1 : World} {b : Nat} {cs : List Value} {t : TypeId} (h : Own w b cs t w1) (k : Nat) (v : Value) : Own w b (cs.set k v) t (w1.setCell ⟨b, k, none⟩ v) :=
  ⟨h.bel.setCell h.n v, h.n, h.k.set k v⟩
theorem Own.setAll {w w1 : World} {b : Nat} {cs : List Value} {t : TypeId} (h : Own w b cs t w1) (vs : List Value) (hl : vs.length = cs.length) : Own w b vs t (w1.setCells b 0 vs) :=
  ⟨below_setCells h.bel h.n 0 vs, h.n, blk_setAll h.k hl⟩
theorem Own.setO {w w1 : World} {b b' : Nat} {cs : List Value} {t : TypeId} (h : Own w b cs t w1) (hb : b' ≠ b) (hn : w.heap.size ≤ b') (k : Nat) (v : Value) : Own w b cs t (w1.setCell ⟨b', k, none⟩ v) :=
  ⟨h.bel.setCell hn v, h.n, h.k.other hb v⟩
theorem Own.setAllO {w w1 : World} {b b' : Nat} {cs : List Value} {t : TypeId} (h : Own w b cs t w1) (hb : b' ≠ b) (hn : w.heap.size ≤ b') (o : Nat) (vs : List Value) : Own w b cs t (w1.setCells b' o vs) :=
  ⟨below_setCells h.bel hn o vs, h.n, blk_setOther h.k (Ne.symm hb) o vs⟩
theorem Own.upd {w w1 w2 : World} {b : Nat} {cs cs' : List Value} {t t' : TypeId} (h : Own w b cs t w1) (u : Upd b cs' t' w1 w2) : Own w b cs' t' w2 := ⟨u.below h.bel h.n, h.n, u.c⟩
theorem Own.updO {w w1 w2 : World} {b b' : Nat} {cs cs' : List Value} {t t' : TypeId} (h : Own w b cs t w1) (hb : b' ≠ b) (hn : w.heap.size ≤ b') (u : Upd b' cs' t' w1 w2) : Own w b cs t w2 := ⟨u.below h.bel hn, h.n, u.blk h.k (Ne.symm hb)⟩
theorem Own.cell {w w1 : World} {b : Nat} {cs : List Value} {t : TypeId} (h : Own w b cs t w1) {i : Nat} {v : Value} (hv : cs[i]? = some v) : w1.cell? ⟨b, i, none⟩ = some v := h.k.cellAt hv
theorem Own.fro {w w1 : World} {b : Nat} {cs : List Value} {t : TypeId} (h : Own w b cs t w1) (i : Nat) : w1.frozen? ⟨b, i, none⟩ = false := h.k.unfrozen i
theorem Own.all {w w1 : World} {b : Nat} {cs : List Value} {t : TypeId} (h : Own w b cs t w1) : w1.rangeAt b 0 cs := range_all h.k
theorem Own.there {w w1 : World} {b : Nat} {cs : List Value} {t : TypeId} (h : Own w b cs t w1) {n : Nat} (hn : n ≤ cs.length) : w1.there b 0 n := there_of_blk h.k (by omega)
theorem Own.drew' {w w1 w2 : World} {b : Nat} {cs : List Value} {t : TypeId} (h : Own w b cs t w1) (hm : ∃ n, w2 = w1.drewN n) : Own w b cs t w2 := by
  obtain ⟨n, rfl⟩ := hm
  exact h.drewN n
theorem Own.store {P : Program} {w w1 : World} {b : Nat} {cs : List Value} {t : TypeId} (h : Own w b cs t w1) (vs : List Value) (hl : vs.length = cs.length) (h1 : ∀ v ∈ vs, v.oneCell' = true) :
    (storeCells ⟨b, 0, none⟩ vs).run P w1 = .ok () (w1.setCells b 0 vs) := by
  have ht := h.there (n := vs.length) (by omega)
  exact run_storeCells_cells (P := P) b 0 vs 0 w1 (fun j hj => by simpa using (ht j hj).1) (fun j hj => by simpa using (ht j hj).2) h1
theorem Own.keep {S : Nat → Prop} {w w1 w2 : World} {b : Nat} {cs : List Value} {t : TypeId} (h : Own w b cs t w1) (k : Keep S w1 w2) (hb : ¬ S b) (hs : ∀ i, i < w.heap.size → ¬ S i) : Own w b cs t w2 :=
  ⟨Keep.belowB h.bel k h.bel.size hs, h.n, h.k.keep k hb⟩
theorem own_ge {w : World} {base : Nat} {e : TypeId} {size : Nat} {v : Value} {n : Nat} {xs : List Value} (h : w.ownsRow base e size v n xs) : ∀ g, v.ownBlock = some g → base ≤ g := fun g hg => (World.ownsRow.lt h g hg).1
theorem own_form {w : World} {base : Nat} {e : TypeId} {size : Nat} {v : Value} {n : Nat} {xs : List Value} (h : w.ownsRow base e size v n xs) : ∃ a cap, v = .slice a n cap := by
  rcases h.2 with ⟨hv, h0⟩ | ⟨g, cap, cur, hv, _⟩
  · exact ⟨none, 0, by rw [hv, h0]⟩
  · exact ⟨_, cap, hv⟩
/-- A world in which a row of the call's own has grown. -/
theorem keep_grown {w w' : World} {row : Option Nat} (h : w.grownBy w' row) : Keep (fun i => row = some i) w w' :=
  ⟨h.os, h.tape, h.output, h.size, fun k hk hs => h.block k hk (fun e => hs e.symm)⟩
theorem below_grown {w0 w w' : World} {row : Option Nat} (hb : Below w0.heap.size w0 w) (h : w.grownBy w' row) (hr : ∀ k, row = some k → w0.heap.size ≤ k) : Below w0.heap.size w0 w' :=
  Keep.belowB hb (keep_grown h) hb.size (fun i hi e => by have := hr i e; omega)
theorem sl_form {w : World} {base : Nat} {e : TypeId} {size : Nat} {v : Value} {n : Nat} {xs : List Value} (h : w.ownsRow base e size v n xs) (hn : 0 < n) :
    ∃ g cap sp, v = .slice (some ⟨g, 0, none⟩) n cap ∧ base ≤ g ∧ n ≤ cap ∧ cap ≤ maxLen ∧ Blk w g (xs ++ sp) e := by
  rcases h.2 with ⟨_, h0⟩ | ⟨g, cap, cur, hv, hb, hg, hc, hm, hs, ht⟩
  · omega
  · refine ⟨g, cap, cur.toList.drop (n * size), hv, hb, hc, hm, ?_⟩
    have e1 : xs ++ cur.toList.drop (n * size) = cur.toList := by rw [← ht, List.take_append_drop]
    unfold Blk
    rw [e1]
    simpa using hg
theorem sl_zero {w : World} {base : Nat} {e : TypeId} {size : Nat} {v : Value} {xs : List Value} (h : w.ownsRow base e size v 0 xs) : xs = [] := by
  have := h.1
  simpa using this
/-- A row of the call's own, in a world in which its block stands. -/
theorem sl_keep {w w' : World} {S : Nat → Prop} {base : Nat} {e : TypeId} {size : Nat} {v : Value} {n : Nat} {xs : List Value} (h : w.ownsRow base e size v n xs) (k : Keep S w w') (hs : ∀ g, v.ownBlock = some g → ¬ S g) : w'.ownsRow base e size v n xs := by
  refine ⟨h.1, ?_⟩
  rcases h.2 with h0 | ⟨g, cap, cur, hv, hb, hg, hr⟩
  · exact .inl h0
  · refine .inr ⟨g, cap, cur, hv, hb, ?_, hr⟩
    have hl : g < w.heap.size := by
      rcases Nat.lt_or_ge g w.heap.size with h1 | h1
      · exact h1
      · rw [Array.getElem?_eq_none h1] at hg; cases hg
    rw [k.block g hl (hs g (by rw [hv]; rfl)), hg]
theorem sl_below {w w' : World} {base : Nat} {e : TypeId} {size : Nat} {v : Value} {n : Nat} {xs : List Value} (h : w.ownsRow base e size v n xs) (hb : Below w.heap.size w w') : w'.ownsRow base e size v n xs :=
  sl_keep (S := fun _ => False) h (Keep.of_below hb) (fun _ _ h => h)
theorem news_blk {w : World} {b : Nat} {cs sp : List Value} {t : TypeId} (h : Blk w b (cs ++ sp) t) : ∀ j u, cs[j]? = some u → w.cell? ((⟨b, 0, none⟩ : Addr).add j) = some u := fun j u hu => by
  rw [add_blk]
  refine h.cellAt ?_
  have hj : j < cs.length := by
    rcases Nat.lt_or_ge j cs.length with h1 | h1
    · exact h1
    · rw [List.getElem?_eq_none h1] at hu; cases hu
  rw [List.getElem?_append_left hj, hu]
/-- Elements of several cells, in a row. -/
def flat {α : Type} (enc : α → List Value) : List α → List Value
  | [] => []
  | x :: r => enc x ++ flat enc r
section
variable {α : Type} {enc : α → List Value} {s : Nat}
theorem flat_length (hs : ∀ x, (enc x).length = s) (l : List α) : (flat enc l).length = l.length * s := by
  induction l with
  | nil => simp [flat]
  | cons x r ih => rw [flat, List.length_append, hs, ih, List.length_cons, Nat.succ_mul, Nat.add_comm]
theorem flat_append (a b : List α) : flat enc (a ++ b) = flat enc a ++ flat enc b := by
  induction a with
  | nil => rfl
  | cons x r ih => rw [List.cons_append, flat, flat, ih, List.append_assoc]
theorem flat_drop (hs : ∀ x, (enc x).length = s) (l : List α) (i : Nat) : (flat enc l).drop (i * s) = flat enc (l.drop i) := by
  induction l generalizing i with
  | nil => simp [flat]
  | cons x r ih =>
    cases i with
    | zero => simp
    | succ i =>
      have e : (i + 1) * s = (enc x).length + i * s := by rw [hs, Nat.succ_mul, Nat.add_comm]
      rw [flat, e, List.drop_append, List.drop_of_length_le (by omega), List.nil_append, Nat.add_sub_cancel_left, ih]
      rfl
theorem flat_take (hs : ∀ x, (enc x).length = s) (l : List α) (i : Nat) : (flat enc l).take (i * s) = flat enc (l.take i) := by
  induction l generalizing i with
  | nil => simp [flat]
  | cons x r ih =>
    cases i with
    | zero => simp [flat]
    | succ i =>
      have e : (i + 1) * s = (enc x).length + i * s := by rw [hs, Nat.succ_mul, Nat.add_comm]
      rw [flat, e, List.take_append, List.take_of_length_le (by omega), Nat.add_sub_cancel_left, ih]
      rfl
theorem some_lt {l : List α} {i : Nat} {x : α} (h : l[i]? = some x) : i < l.length := by
  rcases Nat.lt_or_ge i l.length with h1 | h1
  · exact h1
  · rw [List.getElem?_eq_none h1] at h; cases h
theorem flat_seg (hs : ∀ x, (enc x).length = s) {l : List α} {i : Nat} {x : α} (h : l[i]? = some x) : ((flat enc l).drop (i * s)).take s = enc x := by
  rw [flat_drop hs]
  have hi := some_lt h
  rw [List.drop_eq_getElem_cons hi, flat]
  rw [List.getElem?_eq_getElem hi] at h
  rw [Option.some.inj h, ← hs x, List.take_left]
theorem flat_get (hs : ∀ x, (enc x).length = s) {l : List α} {i : Nat} {x : α} (h : l[i]? = some x) {j : Nat} (hj : j < s) : (flat enc l)[i * s + j]? = (enc x)[j]? := by
  rw [← flat_seg hs h, List.getElem?_take, if_pos hj, List.getElem?_drop]
theorem flat_put (hs : ∀ x, (enc x).length = s) {l : List α} {i : Nat} {x y : α} (h : l[i]? = some x) {j : Nat} (hj : j < s) {v : Value} (hy : (enc x).set j v = enc y) : (flat enc l).set (i * s + j) v = flat enc (l.set i y) := by
  induction l generalizing i with
  | nil => simp at h
  | cons z r ih =>
    cases i with
    | zero =>
      simp only [List.getElem?_cons_zero, Option.some.injEq] at h
      subst h
      rw [Nat.zero_mul, Nat.zero_add, List.set_cons_zero, flat, flat, List.set_append_left _ _ (by rw [hs]; exact hj), hy]
    | succ i =>
      have h' : r[i]? = some x := by simpa using h
      rw [List.set_cons_succ, flat, flat, ← ih h', List.set_append_right _ _ (by rw [hs, Nat.succ_mul]; omega), hs, show (i + 1) * s + j - s = i * s + j by rw [Nat.succ_mul]; omega]
theorem flat_set (hs : ∀ x, (enc x).length = s) {l : List α} {i : Nat} (y : α) (hi : i < l.length) : (flat enc l).take (i * s) ++ enc y ++ (flat enc l).drop (i * s + s) = flat enc (l.set i y) := by
  rw [show i * s + s = (i + 1) * s by rw [Nat.succ_mul], flat_take hs, flat_drop hs, List.set_eq_take_append_cons_drop, if_pos hi, flat_append, flat, List.append_assoc]
end
/-- Is this load, this store, ahead? (Asked ahead of a law, so that a law that does not fit fails at once.) -/
theorem load_gate {P : Program} {ops : Array Oper} {Q : Exit → Act → World → Prop} {rest : List Oper} {a : Act} {w : World} {dst : Option Tmp} {t : TypeId} {pos : String} {aft : Array Edge} {g : Option (Nat × Bool)} (ty : TypeId) (n : Tmp)
    (h : wpList P ops Q (⟨dst, .load ty (.tmp n), t, pos, aft, g⟩ :: rest) a w) : wpList P ops Q (⟨dst, .load ty (.tmp n), t, pos, aft, g⟩ :: rest) a w := h
theorem store_gate {P : Program} {ops : Array Oper} {Q : Exit → Act → World → Prop} {rest : List Oper} {a : Act} {w : World} {dst : Option Tmp} {t : TypeId} {pos : String} {aft : Array Edge} {g : Option (Nat × Bool)} (ty : TypeId) (n m : Tmp)
    (h : wpList P ops Q (⟨dst, .store ty (.tmp n) (.tmp m), t, pos, aft, g⟩ :: rest) a w) : wpList P ops Q (⟨dst, .store ty (.tmp n) (.tmp m), t, pos, aft, g⟩ :: rest) a w := h
/-- Is this call ahead, at a step of a region that draws? -/
theorem call_gate {P : Program} {ops : Array Oper} {a : Act} {w : World} {K : Act → World → Prop} {Q : Exit → Act → World → Prop} {E : Prop} {dst : Option Tmp} {t : TypeId} {pos : String} {aft : Array Edge} {g : Option (Nat × Bool)} {args : Array Operand} {ats : Array TypeId} (f : FuncId)
    (h : if Region.wanted ⟨dst, .call { callee := .value (.func f), args := args, argTypes := ats }, t, pos, aft, g⟩ (yielded ops a.tmps) = true then Oper.wp P ⟨dst, .call { callee := .value (.func f), args := args, argTypes := ats }, t, pos, aft, g⟩ a w K Q else E) :
    if Region.wanted ⟨dst, .call { callee := .value (.func f), args := args, argTypes := ats }, t, pos, aft, g⟩ (yielded ops a.tmps) = true then Oper.wp P ⟨dst, .call { callee := .value (.func f), args := args, argTypes := ats }, t, pos, aft, g⟩ a w K Q else E := h
/-- A row: whose, which page, what is put. -/
structure Ro where
  vm : Int
  pg : Int
  th : Bool
  fr : Int
  wr : Bool
deriving DecidableEq
def Ro.cells (x : Ro) : List Value := [.int .i64 x.vm, .int .i64 x.pg, .bool x.th, .int .i64 x.fr, .bool x.wr]
def rows (l : List Ro) : List Value := flat Ro.cells l
theorem ro5 : ∀ x : Ro, x.cells.length = 5 := fun _ => rfl
theorem rows_one (l : List Ro) : ∀ v ∈ rows l, v.oneCell' = true := by
  induction l with
  | nil => intro v hv; cases hv
  | cons x r ih =>
    intro v hv
    rw [rows, flat, List.mem_append] at hv
    rcases hv with h | h
    · simp only [Ro.cells, List.mem_cons, List.not_mem_nil, or_false] at h
      rcases h with rfl | rfl | rfl | rfl | rfl <;> rfl
    · exact ih v h
set_option maxHeartbeats 1000000 in
theorem put_nil (a b : Int) (x y : Bool) (c : Int) (w : World) : Calls Try.prog 8 #[.pointer none, .int .i64 a, .int .i64 b, .agg #[.bool x, .int .i64 c, .bool y]] w fun e w' => e = .returned (.tuple #[]) ∧ Below w.heap.size w w' := by
  go_enter Try.func8, Try.ntmps8
  go_wp2
  first | go_end0 | refine bodyPost_ret (results_none rfl _ _ _) rfl ?_
  exact ⟨rfl, (Below.refl _ _).alloc (Nat.le_refl _) _⟩
set_option maxHeartbeats 1000000 in
theorem drop_nil (a b : Int) (w : World) : Calls Try.prog 10 #[.pointer none, .int .i64 a, .int .i64 b] w fun e w' => e = .returned (.tuple #[]) ∧ Below w.heap.size w w' := by
  go_enter Try.func10, Try.ntmps10
  go_wp2
  first | go_end0 | refine bodyPost_ret (results_none rfl _ _ _) rfl ?_
  exact ⟨rfl, ((Below.refl _ _).alloc (Nat.le_refl _) _).alloc (by simp) _⟩
set_option maxHeartbeats 1000000 in
theorem dropVM_nil (a : Int) (w : World) : Calls Try.prog 13 #[.pointer none, .int .i64 a] w fun e w' => e = .returned (.tuple #[]) ∧ Below w.heap.size w w' := by
  go_enter Try.func13, Try.ntmps13
  go_wp2
  first | go_end0 | refine bodyPost_ret (results_none rfl _ _ _) rfl ?_
  exact ⟨rfl, (Below.refl _ _).alloc (Nat.le_refl _) _⟩
theorem clear_nil (w : World) : Calls Try.prog 14 #[.pointer none] w fun e w' => e = .returned (.tuple #[]) ∧ w = w' := by
  go_enter Try.func14, Try.ntmps14
  go_wp2
  first | go_end0 | refine bodyPost_ret (results_none rfl _ _ _) rfl ?_
  exact ⟨rfl, rfl⟩
theorem len_nil (w : World) : Calls Try.prog 12 #[.pointer none] w fun e w' => e = .returned (.int .i64 0) ∧ w = w' := by
  go_enter Try.func12, Try.ntmps12
  go_wp2
  go_ret
  exact ⟨rfl, rfl⟩
set_option maxHeartbeats 1000000 in
theorem look_nil (a b : Int) (w : World) : Calls Try.prog 9 #[.pointer none, .int .i64 a, .int .i64 b] w fun e w' => e = .returned (.tuple #[.agg #[.bool false, .int .i64 0, .bool false], .bool false]) ∧ Below w.heap.size w w' := by
  go_enter Try.func9, Try.ntmps9
  go_wp2
  refine bodyPost_ret (v := .tuple #[.agg #[.bool false, .int .i64 0, .bool false], .bool false]) (by simp [results, Try.results9, go_sem]) rfl ⟨rfl, ?_⟩
  first | exact (Below.refl _ _).alloc (Nat.le_refl _) _ | (repeat (first | refine Below.setCell ?_ (Nat.le_refl _) _ | exact (Below.refl _ _).alloc (Nat.le_refl _) _))
/-- A cache's state: its slice v owns the rows. -/
structure Cv (B p : Nat) (v : Value) (l : List Ro) (w : World) : Prop where
  c : Blk w p [v] 25
  r : w.ownsRow B 49 5 v l.length (rows l)
  ne : v.ownBlock ≠ some p
  le : l.length ≤ 8
theorem Cv.keep {S : Nat → Prop} {B p : Nat} {v : Value} {l : List Ro} {w w' : World} (h : Cv B p v l w) (k : Keep S w w') (hp : ¬ S p) (hv : ∀ g, v.ownBlock = some g → ¬ S g) : Cv B p v l w' := ⟨h.c.keep k hp, sl_keep h.r k hv, h.ne, h.le⟩
theorem Cv.below {B p : Nat} {v : Value} {l : List Ro} {w w' : World} (h : Cv B p v l w) (hb : Below w.heap.size w w') : Cv B p v l w' := h.keep (S := fun _ => False) (Keep.of_below hb) (fun h => h) (fun _ _ h => h)
theorem Cv.at {B p : Nat} {v : Value} {l : List Ro} {w : World} (h : Cv B p v l w) {i : Nat} {x : Ro} (hx : l[i]? = some x) : ∃ g cap, v = .slice (some ⟨g, 0, none⟩) l.length cap ∧ w.rangeAt g (i * 5) x.cells := by
  have hi := some_lt hx
  obtain ⟨g, cap, sp, hv, _, _, _, hb⟩ := sl_form h.r (by omega)
  refine ⟨g, cap, hv, range_of_blk (n := 5) hb ?_⟩
  have h5 := flat_seg ro5 hx
  have hlen := flat_length ro5 l
  have hin : i * 5 + 5 ≤ (rows l).length := by unfold rows; rw [hlen]; omega
  rw [List.drop_append_of_le_length (by omega), List.take_append_of_le_length (by rw [List.length_drop]; omega)]
  exact h5
def Ro.is (vm pg : Int) (x : Ro) : Bool := decide (x.vm = vm) && decide (x.pg = pg)
def lookL (l : List Ro) (vm pg : Int) : Option Ro := l.find? (Ro.is vm pg)
structure Ro.Ok (x : Ro) : Prop where
  a : (Lit.int .i64 x.vm).wf = true
  b : (Lit.int .i64 x.pg).wf = true
def tagSh : Sh := .seq (.int .i64) (.seq (.int .i64) .nil)
theorem fits_tag {a b : Int} (ha : (Lit.int .i64 a).wf = true) (hb : (Lit.int .i64 b).wf = true) (w : World) : Fits w tagSh [.int .i64 a, .int .i64 b] :=
  ⟨[_], _, rfl, ⟨_, rfl, ha⟩, [_], _, rfl, ⟨_, rfl, hb⟩, rfl⟩
theorem eql_tag {a b c d : Int} (ha : (Lit.int .i64 a).wf = true) (hb : (Lit.int .i64 b).wf = true) (hc : (Lit.int .i64 c).wf = true) (hd : (Lit.int .i64 d).wf = true) (W : World) :
    (binOp .eql 47 (.agg #[.int .i64 a, .int .i64 b]) (.agg #[.int .i64 c, .int .i64 d])).run Try.prog W = .ok (.bool (decide (a = c) && decide (b = d))) W ∧
    (binOp .neq 47 (.agg #[.int .i64 a, .int .i64 b]) (.agg #[.int .i64 c, .int .i64 d])).run Try.prog W = .ok (.bool (!(decide (a = c) && decide (b = d)))) W := by
  by_cases h : a = c ∧ b = d
  · obtain ⟨rfl, rfl⟩ := h
    have h := eql_same (P := Try.prog) (w := W) (w0 := W) (n := 3) (t := 47) (s := tagSh) (by kernel_rfl) (by omega) (by kernel_rfl) (fits_tag ha hb W)
    simp only [decide_true, Bool.and_self, Bool.not_true]
    exact h
  · have h2 := eql_other (P := Try.prog) (w := W) (w0 := W) (n := 3) (t := 47) (s := tagSh) (by kernel_rfl) (by omega) (by kernel_rfl) (fits_tag ha hb W) (fits_tag hc hd W) (by
      intro e
      simp only [List.cons.injEq, Value.int.injEq, true_and, and_true] at e
      exact h e)
    have h3 : (decide (a = c) && decide (b = d)) = false := by
      rw [Bool.and_eq_false_iff]
      by_cases h4 : a = c
      · exact .inr (decide_eq_false fun h5 => h ⟨h4, h5⟩)
      · exact .inl (decide_eq_false h4)
    rw [h3]
    exact h2
theorem row_info : ∃ i, Try.prog.info? 49 = some i ∧ i.zero = some (.agg #[.int .i64 0, .int .i64 0, .bool false, .int .i64 0, .bool false]) ∧ i.size = 5 ∧ i.bytes = 40 := by
  have h : (Try.prog.info? 49).map (fun i => (i.zero, i.size, i.bytes)) = some (some (.agg #[.int .i64 0, .int .i64 0, .bool false, .int .i64 0, .bool false]), 5, 40) := by kernel_rfl
  obtain ⟨i, hi, he⟩ := Option.map_eq_some_iff.1 h
  simp only [Prod.mk.injEq] at he
  exact ⟨i, hi, he.1, he.2.1, he.2.2⟩
theorem size5 : (Try.prog.info? 49).map (·.size) = some 5 := by kernel_rfl
theorem find_none_take {l : List Ro} {p : Ro → Bool} {k : Nat} (hk : k < l.length) (h : (l.take k).find? p = none) : (l.take (k + 1)).find? p = if p l[k] then some l[k] else none := by
  rw [List.take_succ_eq_append_getElem hk, List.find?_append, h]
  simp [List.find?_singleton]
theorem find_take_some {l : List Ro} {p : Ro → Bool} {k : Nat} {x : Ro} (h : (l.take k).find? p = some x) : l.find? p = some x := by
  rw [← List.take_append_drop k l, List.find?_append, h]; rfl
def lookV : Option Ro → Value
  | some x => .tuple #[.agg #[.bool x.th, .int .i64 x.fr, .bool x.wr], .bool true]
  | none => .tuple #[.agg #[.bool false, .int .i64 0, .bool false], .bool false]
set_option maxHeartbeats 2000000 in
theorem look_calls {B p : Nat} {v : Value} {l : List Ro} {w : World} (h : Cv B p v l w) (ho : ∀ x ∈ l, x.Ok) (vm pg : Int) (hvm : (Lit.int .i64 vm).wf = true) (hpg : (Lit.int .i64 pg).wf = true) :
    Calls Try.prog 9 #[.pointer (some ⟨p, 0, none⟩), .int .i64 vm, .int .i64 pg] w fun e w' => e = .returned (lookV (lookL l vm pg)) ∧ Below w.heap.size w w' := by
  have HT := Lib.hid (fun (x : Ro) (hx : x ∈ l) (W : World) => (eql_tag (ho x hx).a (ho x hx).b hvm hpg W).1)
  have HC := Lib.hid h
  have hl8 := h.le
  obtain ⟨a, cap, hv⟩ := own_form h.r
  have LK := Lib.hid (show lookL l vm pg = l.find? (Ro.is vm pg) from rfl)
  have FN := Lib.hid (fun (k : Nat) (hk : k < l.length) => find_none_take (p := Ro.is vm pg) hk)
  have FS := Lib.hid (fun (k : Nat) (x : Ro) => find_take_some (l := l) (p := Ro.is vm pg) (k := k) (x := x))
  have IS := Lib.hid (fun x : Ro => show Ro.is vm pg x = (decide (x.vm = vm) && decide (x.pg = pg)) from rfl)
  generalize lookL l vm pg = res at *
  generalize Ro.is vm pg = P at *
  have cp := h.c.cellAt (i := 0) rfl
  rw [hv] at cp
  have HV := Lib.hid hv
  have I5 := Lib.hid size5
  have T1 := Lib.hid (Own.new (Below.refl _ w) #[.bool false, .int .i64 0, .bool false] 28)
  have c1 := cp
  rw [← (((Below.refl w.heap.size w).alloc (Nat.le_refl _) (.cells #[.bool false, .int .i64 0, .bool false] 28)).cell (p := ⟨p, 0, none⟩) h.c.lt)] at c1
  clear h hv cp ho
  go_enter Try.func9, Try.ntmps9
  go_upto_region 1 with (fail)
  generalize w.alloc (.cells #[.bool false, .int .i64 0, .bool false] 28) = w1 at *
  go_wp2_with fail
  go_loopw [17] (fun i wr => ∃ k : Nat, k ≤ l.length ∧ i = .int .i64 k ∧ (l.take k).find? P = none ∧ Own w w.heap.size [.bool false, .int .i64 0, .bool false] 28 wr) (fun i _ => l.length - (intOf i).toNat)
  case atStart => exact ⟨0, by omega, rfl, by simp, T1.out⟩
  case round =>
    clear T1 c1
    obtain ⟨k, hk, rfl, hn, o1⟩ := hrel
    have T2 := Lib.hid o1
    have HN := Lib.hid hn
    clear o1 hn
    by_cases hlt : k < l.length
    · have hx : l[k]? = some l[k] := List.getElem?_eq_getElem hlt
      have hk0 : 0 ≤ (k : Int) := by omega
      have hki : (k : Int) < (l.length : Int) := by omega
      obtain ⟨g, cap2, hv2, hr⟩ := (HC.out.below T2.out.bel).at hx
      rw [HV.out] at hv2
      obtain ⟨rfl, rfl⟩ : a = some ⟨g, 0, none⟩ ∧ cap = cap2 := by
        injection hv2 with h1 _ h3
        exact ⟨h1, h3⟩
      have et := HT.out l[k] (List.getElem_mem hlt)
      have F1 := Lib.hid (FN.out k hlt HN.out)
      have IX := IS.out l[k]
      have FS1 := Lib.hid (FS.out (k + 1))
      generalize l[k] = x at *
      obtain ⟨xv, xp, xt, xf, xw⟩ := x
      simp only at et IX
      rw [IX] at F1
      have RG : Hid (wr.rangeAt g (k * 5) [.int .i64 xv, .int .i64 xp, .bool xt, .int .i64 xf, .bool xw]) := hr
      clear hr hv2 hx IX
      go_upto_region 5 with (((with_reducible refine load_gate (49) (19) ?_); refine wpList_load_mid rfl 49 (.tmp 19) rfl g (k * 5) rfl [.int .i64 xv, .int .i64 xp, .bool xt, .int .i64 xf, .bool xw] _ RG.out Try.underlying49 rfl I5.out ?_))
      have R3 := Lib.hid (Own.new T2.out.bel #[.int .i64 xv, .int .i64 xp, .bool xt, .int .i64 xf, .bool xw] 49)
      have T3 := Lib.hid (T2.out.alloc (.cells #[.int .i64 xv, .int .i64 xp, .bool xt, .int .i64 xf, .bool xw] 49))
      generalize wr.alloc (.cells #[.int .i64 xv, .int .i64 xp, .bool xt, .int .i64 xf, .bool xw] 49) = w3 at *
      have d0 := R3.out.cell (i := 0) rfl
      have d1 := R3.out.cell (i := 1) rfl
      have d2 := R3.out.cell (i := 2) rfl
      have d3 := R3.out.cell (i := 3) rfl
      have d4 := R3.out.cell (i := 4) rfl
      have e0 := T3.out.cell (i := 0) rfl
      have e1 := T3.out.cell (i := 1) rfl
      have e2 := T3.out.cell (i := 2) rfl
      have f0 := T3.out.fro 0
      have f1 := T3.out.fro 1
      have f2 := T3.out.fro 2
      generalize (decide (xv = vm) && decide (xp = pg)) = hit at *
      cases hit with
      | true =>
        have HR : Hid (res = some ⟨xv, xp, xt, xf, xw⟩) := by show res = _; rw [LK.out]; exact FS1.out _ (by rw [F1.out]; rfl)
        have T4 := Lib.hid (((T3.out.set 0 (.bool xt)).set 1 (.int .i64 xf)).set 2 (.bool xw))
        go_wp2_with fail
        rw [HR.out]
        refine bodyPost_ret (v := .tuple #[.agg #[.bool xt, .int .i64 xf, .bool xw], .bool true]) (results_ct Try.results9 _ _ w.heap.size [.bool xt, .int .i64 xf, .bool xw] _ rfl T4.out.all Try.underlying28 rfl (by kernel_rfl)) rfl ⟨rfl, T4.out.bel⟩
      | false =>
        go_wp2_with fail
        go_roundw
        case rel => exact ⟨k + 1, by omega, by go_num, by rw [F1.out]; rfl, T3.out⟩
        case measure => simp [intOf]; omega
    · obtain rfl : k = l.length := by omega
      have HR : Hid (res = none) := by
        show res = none
        rw [LK.out]
        have := HN.out
        rw [List.take_of_length_le (Nat.le_refl _)] at this
        exact this
      have e0 := T2.out.cell (i := 0) rfl
      have e1 := T2.out.cell (i := 1) rfl
      have e2 := T2.out.cell (i := 2) rfl
      have f0 := T2.out.fro 0
      have f1 := T2.out.fro 1
      have f2 := T2.out.fro 2
      have T4 := Lib.hid (((T2.out.set 0 (.bool false)).set 1 (.int .i64 0)).set 2 (.bool false))
      go_wp2_with fail
      rw [HR.out]
      refine bodyPost_ret (v := .tuple #[.agg #[.bool false, .int .i64 0, .bool false], .bool false]) (results_ct Try.results9 _ _ w.heap.size [.bool false, .int .i64 0, .bool false] _ rfl T4.out.all Try.underlying28 rfl (by kernel_rfl)) rfl ⟨rfl, T4.out.bel⟩
def KeepP (w : World) (p : Nat) (l : List Ro) (e : Ending) (w' : World) : Prop := ∃ v', e = .returned (.tuple #[]) ∧ Cv w.heap.size p v' l w' ∧ Keep (fun i => i = p) w w'
set_option maxHeartbeats 4000000 in
theorem keep2_calls {B p : Nat} {v : Value} {l : List Ro} {w : World} (h : Cv B p v l w) (P : Ro → Bool) (c1 c2 : Addr) (hF : ∀ x ∈ l, ∀ wx, Below w.heap.size w wx → Calls Try.prog 16 #[.agg x.cells.toArray, .pointer (some c1), .pointer (some c2)] wx fun e w' => e = .returned (.bool (P x)) ∧ Below wx.heap.size wx w') :
    Calls Try.prog 15 #[.pointer (some ⟨p, 0, none⟩), .func (.func 16) #[] #[.pointer (some c1), .pointer (some c2)]] w (KeepP w p (l.filter P)) := by
  have HC := Lib.hid h
  have HF := Lib.hid hF
  have hl8 := h.le
  have PL := Lib.hid h.c.lt
  obtain ⟨a, cap, hv⟩ := own_form h.r
  have HV := Lib.hid hv
  have cp := h.c.cellAt (i := 0) rfl
  rw [hv] at cp
  have I5 := Lib.hid size5
  obtain ⟨ii, hii, hz, hs, hb⟩ := row_info
  have HI := Lib.hid hii
  have HZ := Lib.hid hz
  have HSz := Lib.hid hs
  have HBy := Lib.hid hb
  clear h hF hv hii hz hs hb
  go_enter Try.func15, Try.ntmps15
  go_wp2_with fail
  go_loopw [4, 12] (fun t i wr => ∃ (k n : Nat), k ≤ l.length ∧ n ≤ k ∧ i = .int .i64 k ∧ ((l.take k).filter P).length = n ∧ Below w.heap.size w wr ∧ wr.ownsRow w.heap.size 49 5 t n (rows ((l.take k).filter P))) (fun _ i _ => l.length - (intOf i).toNat)
  case atStart => exact ⟨0, 0, by omega, by omega, rfl, by simp, Below.refl _ _, World.ownsRow_nil _ _ _ _⟩
  case round =>
    clear cp
    obtain ⟨k, n, hk, hnk, rfl, hn, hbel, hown⟩ := hrel
    obtain ⟨av, capv, rfl⟩ := own_form hown
    have HN := Lib.hid hn
    have B2 := Lib.hid hbel
    have N2 := Lib.hid hown
    clear hn hbel hown
    by_cases hlt : k < l.length
    · have hx : l[k]? = some l[k] := List.getElem?_eq_getElem hlt
      have hk0 : 0 ≤ (k : Int) := by omega
      have hki : (k : Int) < (l.length : Int) := by omega
      obtain ⟨g, cap2, hv2, hr⟩ := (HC.out.below B2.out).at hx
      rw [HV.out] at hv2
      obtain ⟨rfl, rfl⟩ : a = some ⟨g, 0, none⟩ ∧ cap = cap2 := by
        injection hv2 with h1 _ h3
        exact ⟨h1, h3⟩
      have TK := Lib.hid (show (l.take (k + 1)).filter P = (l.take k).filter P ++ if P l[k] then [l[k]] else [] by
        rw [List.take_succ_eq_append_getElem hlt, List.filter_append]
        congr 1
        by_cases h : P l[k] = true
        · simp [h]
        · simp [h])
      have CF := Lib.hid (HF.out l[k] (List.getElem_mem hlt))
      generalize l[k] = x at *
      obtain ⟨xv, xp, xt, xf, xw⟩ := x
      have RG : Hid (wr.rangeAt g (k * 5) [.int .i64 xv, .int .i64 xp, .bool xt, .int .i64 xf, .bool xw]) := hr
      have CF2 : Hid (∀ wx, Below w.heap.size w wx → Calls Try.prog 16 #[.agg #[.int .i64 xv, .int .i64 xp, .bool xt, .int .i64 xf, .bool xw], .pointer (some c1), .pointer (some c2)] wx fun e w' => e = .returned (.bool (P ⟨xv, xp, xt, xf, xw⟩)) ∧ Below wx.heap.size wx w') := CF.out
      clear hr hv2 hx CF
      go_upto_region 4 with (((with_reducible refine load_gate (49) (14) ?_); refine wpList_load_mid rfl 49 (.tmp 14) rfl g (k * 5) rfl [.int .i64 xv, .int .i64 xp, .bool xt, .int .i64 xf, .bool xw] _ RG.out Try.underlying49 rfl I5.out ?_))
      have R3 := Lib.hid (Own.new B2.out #[.int .i64 xv, .int .i64 xp, .bool xt, .int .i64 xf, .bool xw] 49)
      have N3 := Lib.hid (sl_below N2.out ((Below.refl _ _).alloc (Nat.le_refl _) (.cells #[.int .i64 xv, .int .i64 xp, .bool xt, .int .i64 xf, .bool xw] 49)))
      generalize hw3 : wr.alloc (.cells #[.int .i64 xv, .int .i64 xp, .bool xt, .int .i64 xf, .bool xw] 49) = w3 at *
      clear hw3
      generalize wr.heap.size = N6 at *
      go_wp2_with (((with_reducible refine load_gate (49) (6) ?_); refine wpList_load_mid rfl 49 (.tmp 6) rfl N6 0 rfl [.int .i64 xv, .int .i64 xp, .bool xt, .int .i64 xf, .bool xw] _ R3.out.all Try.underlying49 rfl I5.out ?_))
      refine (CF2.out _ R3.out.bel).mono ?_
      rintro e w4 ⟨rfl, u4⟩
      have R4 := Lib.hid (R3.out.step u4)
      have N4 := Lib.hid (sl_below N3.out u4)
      clear u4 R3 N3 CF2
      generalize P ⟨xv, xp, xt, xf, xw⟩ = hit at *
      cases hit with
      | false =>
        go_wp2_with fail
        go_roundw
        case rel => exact ⟨k + 1, n, by omega, by omega, by go_num, by rw [TK.out]; simpa using HN.out, R4.out.bel, by rw [TK.out]; simpa using N4.out⟩
        case measure => simp [intOf]; omega
      | true =>
        have NW := Lib.hid (fun W : World => news_blk (cs := [.int .i64 xv, .int .i64 xp, .bool xt, .int .i64 xf, .bool xw]) (sp := []) (by rw [List.append_nil]; exact Blk.new W #[.int .i64 xv, .int .i64 xp, .bool xt, .int .i64 xf, .bool xw] 49))
        go_wp2_with (first | ((with_reducible refine load_gate (49) (6) ?_); refine wpList_load_mid rfl 49 (.tmp 6) rfl N6 0 rfl [.int .i64 xv, .int .i64 xp, .bool xt, .int .i64 xf, .bool xw] _ R4.out.all Try.underlying49 rfl I5.out ?_) | (at_builtin; refine wpList_append_own _ (by rfl) _ _ _ (by rfl) w.heap.size 49 ii _ 5 40 Try.underlying23 HI.out HZ.out HSz.out HBy.out (by rfl) (by omega) (.slice av n capv) n _ (by rfl) (sl_below N4.out ((Below.refl _ _).alloc (Nat.le_refl _) _)) ⟨w4.heap.size, 0, none⟩ 1 1 [.int .i64 xv, .int .i64 xp, .bool xt, .int .i64 xf, .bool xw] (by rfl) (by rfl) (NW.out _) (by simp [Value.oneCell']) (by unfold maxLen; omega) (by omega) (Nat.le_trans R4.out.bel.size (by simp)) ?_; intro v5 w5 hown hgrow hiff; have G5 := Lib.hid hgrow; have N5 := Lib.hid hown; clear hgrow hown hiff))
        have GE := Lib.hid (own_ge N4.out)
        have B5 := Lib.hid (below_grown (R4.out.bel.alloc R4.out.bel.size _) G5.out (fun k hk => GE.out k hk))
        have TR := Lib.hid (show rows ((l.take (k + 1)).filter P) = rows ((l.take k).filter P) ++ [.int .i64 xv, .int .i64 xp, .bool xt, .int .i64 xf, .bool xw] by
          rw [TK.out]
          first | rw [if_pos rfl] | rw [if_pos trivial]
          unfold rows
          rw [flat_append]; rfl)
        go_roundw
        case rel => exact ⟨k + 1, n + 1, by omega, by omega, by go_num, by rw [TK.out, List.length_append, HN.out]; rfl, B5.out, by rw [TR.out]; exact N5.out⟩
        case measure => simp [intOf]; omega
    · obtain rfl : k = l.length := by omega
      have CP := Lib.hid (HC.out.below B2.out)
      have c1 := CP.out.c.cellAt (i := 0) rfl
      have f1 := CP.out.c.unfrozen 0
      have GE := Lib.hid (own_ge N2.out)
      rw [List.take_of_length_le (Nat.le_refl _)] at HN N2
      have CS := Lib.hid (CP.out.c.set 0 (.slice av n capv))
      have KS := Lib.hid (Keep.setCell (S := fun i => i = p) (Keep.of_below B2.out) (p := ⟨p, 0, none⟩) (fun _ => rfl) (.slice av n capv))
      have NS := Lib.hid (sl_keep N2.out ((Keep.refl (fun i => i = p) wr).setCell (p := ⟨p, 0, none⟩) (fun _ => rfl) (.slice av n capv)) (fun g hg e => by have := GE.out g hg; have := PL.out; omega))
      go_wp2_with fail
      first | go_end0 | refine bodyPost_ret (results_none rfl _ _ _) rfl ?_
      refine ⟨_, rfl, ⟨CS.out, by rw [HN.out]; exact NS.out, fun e => by have := GE.out p e; have := PL.out; omega, by have := HN.out; omega⟩, KS.out⟩
set_option maxHeartbeats 4000000 in
theorem keep1_calls {B p : Nat} {v : Value} {l : List Ro} {w : World} (h : Cv B p v l w) (P : Ro → Bool) (c1 : Addr) (hF : ∀ x ∈ l, ∀ wx, Below w.heap.size w wx → Calls Try.prog 17 #[.agg x.cells.toArray, .pointer (some c1)] wx fun e w' => e = .returned (.bool (P x)) ∧ Below wx.heap.size wx w') :
    Calls Try.prog 15 #[.pointer (some ⟨p, 0, none⟩), .func (.func 17) #[] #[.pointer (some c1)]] w (KeepP w p (l.filter P)) := by
  have HC := Lib.hid h
  have HF := Lib.hid hF
  have hl8 := h.le
  have PL := Lib.hid h.c.lt
  obtain ⟨a, cap, hv⟩ := own_form h.r
  have HV := Lib.hid hv
  have cp := h.c.cellAt (i := 0) rfl
  rw [hv] at cp
  have I5 := Lib.hid size5
  obtain ⟨ii, hii, hz, hs, hb⟩ := row_info
  have HI := Lib.hid hii
  have HZ := Lib.hid hz
  have HSz := Lib.hid hs
  have HBy := Lib.hid hb
  clear h hF hv hii hz hs hb
  go_enter Try.func15, Try.ntmps15
  go_wp2_with fail
  go_loopw [4, 12] (fun t i wr => ∃ (k n : Nat), k ≤ l.length ∧ n ≤ k ∧ i = .int .i64 k ∧ ((l.take k).filter P).length = n ∧ Below w.heap.size w wr ∧ wr.ownsRow w.heap.size 49 5 t n (rows ((l.take k).filter P))) (fun _ i _ => l.length - (intOf i).toNat)
  case atStart => exact ⟨0, 0, by omega, by omega, rfl, by simp, Below.refl _ _, World.ownsRow_nil _ _ _ _⟩
  case round =>
    clear cp
    obtain ⟨k, n, hk, hnk, rfl, hn, hbel, hown⟩ := hrel
    obtain ⟨av, capv, rfl⟩ := own_form hown
    have HN := Lib.hid hn
    have B2 := Lib.hid hbel
    have N2 := Lib.hid hown
    clear hn hbel hown
    by_cases hlt : k < l.length
    · have hx : l[k]? = some l[k] := List.getElem?_eq_getElem hlt
      have hk0 : 0 ≤ (k : Int) := by omega
      have hki : (k : Int) < (l.length : Int) := by omega
      obtain ⟨g, cap2, hv2, hr⟩ := (HC.out.below B2.out).at hx
      rw [HV.out] at hv2
      obtain ⟨rfl, rfl⟩ : a = some ⟨g, 0, none⟩ ∧ cap = cap2 := by
        injection hv2 with h1 _ h3
        exact ⟨h1, h3⟩
      have TK := Lib.hid (show (l.take (k + 1)).filter P = (l.take k).filter P ++ if P l[k] then [l[k]] else [] by
        rw [List.take_succ_eq_append_getElem hlt, List.filter_append]
        congr 1
        by_cases h : P l[k] = true
        · simp [h]
        · simp [h])
      have CF := Lib.hid (HF.out l[k] (List.getElem_mem hlt))
      generalize l[k] = x at *
      obtain ⟨xv, xp, xt, xf, xw⟩ := x
      have RG : Hid (wr.rangeAt g (k * 5) [.int .i64 xv, .int .i64 xp, .bool xt, .int .i64 xf, .bool xw]) := hr
      have CF2 : Hid (∀ wx, Below w.heap.size w wx → Calls Try.prog 17 #[.agg #[.int .i64 xv, .int .i64 xp, .bool xt, .int .i64 xf, .bool xw], .pointer (some c1)] wx fun e w' => e = .returned (.bool (P ⟨xv, xp, xt, xf, xw⟩)) ∧ Below wx.heap.size wx w') := CF.out
      clear hr hv2 hx CF
      go_upto_region 4 with (((with_reducible refine load_gate (49) (14) ?_); refine wpList_load_mid rfl 49 (.tmp 14) rfl g (k * 5) rfl [.int .i64 xv, .int .i64 xp, .bool xt, .int .i64 xf, .bool xw] _ RG.out Try.underlying49 rfl I5.out ?_))
      have R3 := Lib.hid (Own.new B2.out #[.int .i64 xv, .int .i64 xp, .bool xt, .int .i64 xf, .bool xw] 49)
      have N3 := Lib.hid (sl_below N2.out ((Below.refl _ _).alloc (Nat.le_refl _) (.cells #[.int .i64 xv, .int .i64 xp, .bool xt, .int .i64 xf, .bool xw] 49)))
      generalize hw3 : wr.alloc (.cells #[.int .i64 xv, .int .i64 xp, .bool xt, .int .i64 xf, .bool xw] 49) = w3 at *
      clear hw3
      generalize wr.heap.size = N6 at *
      go_wp2_with (((with_reducible refine load_gate (49) (6) ?_); refine wpList_load_mid rfl 49 (.tmp 6) rfl N6 0 rfl [.int .i64 xv, .int .i64 xp, .bool xt, .int .i64 xf, .bool xw] _ R3.out.all Try.underlying49 rfl I5.out ?_))
      refine (CF2.out _ R3.out.bel).mono ?_
      rintro e w4 ⟨rfl, u4⟩
      have R4 := Lib.hid (R3.out.step u4)
      have N4 := Lib.hid (sl_below N3.out u4)
      clear u4 R3 N3 CF2
      generalize P ⟨xv, xp, xt, xf, xw⟩ = hit at *
      cases hit with
      | false =>
        go_wp2_with fail
        go_roundw
        case rel => exact ⟨k + 1, n, by omega, by omega, by go_num, by rw [TK.out]; simpa using HN.out, R4.out.bel, by rw [TK.out]; simpa using N4.out⟩
        case measure => simp [intOf]; omega
      | true =>
        have NW := Lib.hid (fun W : World => news_blk (cs := [.int .i64 xv, .int .i64 xp, .bool xt, .int .i64 xf, .bool xw]) (sp := []) (by rw [List.append_nil]; exact Blk.new W #[.int .i64 xv, .int .i64 xp, .bool xt, .int .i64 xf, .bool xw] 49))
        go_wp2_with (first | ((with_reducible refine load_gate (49) (6) ?_); refine wpList_load_mid rfl 49 (.tmp 6) rfl N6 0 rfl [.int .i64 xv, .int .i64 xp, .bool xt, .int .i64 xf, .bool xw] _ R4.out.all Try.underlying49 rfl I5.out ?_) | (at_builtin; refine wpList_append_own _ (by rfl) _ _ _ (by rfl) w.heap.size 49 ii _ 5 40 Try.underlying23 HI.out HZ.out HSz.out HBy.out (by rfl) (by omega) (.slice av n capv) n _ (by rfl) (sl_below N4.out ((Below.refl _ _).alloc (Nat.le_refl _) _)) ⟨w4.heap.size, 0, none⟩ 1 1 [.int .i64 xv, .int .i64 xp, .bool xt, .int .i64 xf, .bool xw] (by rfl) (by rfl) (NW.out _) (by simp [Value.oneCell']) (by unfold maxLen; omega) (by omega) (Nat.le_trans R4.out.bel.size (by simp)) ?_; intro v5 w5 hown hgrow hiff; have G5 := Lib.hid hgrow; have N5 := Lib.hid hown; clear hgrow hown hiff))
        have GE := Lib.hid (own_ge N4.out)
        have B5 := Lib.hid (below_grown (R4.out.bel.alloc R4.out.bel.size _) G5.out (fun k hk => GE.out k hk))
        have TR := Lib.hid (show rows ((l.take (k + 1)).filter P) = rows ((l.take k).filter P) ++ [.int .i64 xv, .int .i64 xp, .bool xt, .int .i64 xf, .bool xw] by
          rw [TK.out]
          first | rw [if_pos rfl] | rw [if_pos trivial]
          unfold rows
          rw [flat_append]; rfl)
        go_roundw
        case rel => exact ⟨k + 1, n + 1, by omega, by omega, by go_num, by rw [TK.out, List.length_append, HN.out]; rfl, B5.out, by rw [TR.out]; exact N5.out⟩
        case measure => simp [intOf]; omega
    · obtain rfl : k = l.length := by omega
      have CP := Lib.hid (HC.out.below B2.out)
      have c1 := CP.out.c.cellAt (i := 0) rfl
      have f1 := CP.out.c.unfrozen 0
      have GE := Lib.hid (own_ge N2.out)
      rw [List.take_of_length_le (Nat.le_refl _)] at HN N2
      have CS := Lib.hid (CP.out.c.set 0 (.slice av n capv))
      have KS := Lib.hid (Keep.setCell (S := fun i => i = p) (Keep.of_below B2.out) (p := ⟨p, 0, none⟩) (fun _ => rfl) (.slice av n capv))
      have NS := Lib.hid (sl_keep N2.out ((Keep.refl (fun i => i = p) wr).setCell (p := ⟨p, 0, none⟩) (fun _ => rfl) (.slice av n capv)) (fun g hg e => by have := GE.out g hg; have := PL.out; omega))
      go_wp2_with fail
      first | go_end0 | refine bodyPost_ret (results_none rfl _ _ _) rfl ?_
      refine ⟨_, rfl, ⟨CS.out, by rw [HN.out]; exact NS.out, fun e => by have := GE.out p e; have := PL.out; omega, by have := HN.out; omega⟩, KS.out⟩
theorem own_mono {w : World} {B B' : Nat} {e : TypeId} {size : Nat} {v : Value} {n : Nat} {xs : List Value} (h : w.ownsRow B e size v n xs) (hb : B' ≤ B) : w.ownsRow B' e size v n xs := by
  refine ⟨h.1, ?_⟩
  rcases h.2 with h0 | ⟨g, cap, cur, hv, hg, hr⟩
  · exact .inl h0
  · exact .inr ⟨g, cap, cur, hv, Nat.le_trans hb hg, hr⟩
theorem Cv.mono {B B' p : Nat} {v : Value} {l : List Ro} {w : World} (h : Cv B p v l w) (hb : B' ≤ B) : Cv B' p v l w := ⟨h.c, own_mono h.r hb, h.ne, h.le⟩
theorem keep_pre {S : Nat → Prop} {w w1 w2 : World} (hb : Below w.heap.size w w1) (k : Keep S w1 w2) : Keep S w w2 := (Keep.of_below (S := S) hb).trans k
set_option maxHeartbeats 2000000 in
theorem clo2_calls (x : Ro) (hx : x.Ok) (vm pg : Int) (hvm : (Lit.int .i64 vm).wf = true) (hpg : (Lit.int .i64 pg).wf = true) (b1 b2 : Nat) (w : World) (h1 : w.cell? ⟨b1, 0, none⟩ = some (.int .i64 vm)) (h2 : w.cell? ⟨b2, 0, none⟩ = some (.int .i64 pg)) :
    Calls Try.prog 16 #[.agg x.cells.toArray, .pointer (some ⟨b1, 0, none⟩), .pointer (some ⟨b2, 0, none⟩)] w fun e w' => e = .returned (.bool (!Ro.is vm pg x)) ∧ Below w.heap.size w w' := by
  have et := fun W => (eql_tag hx.a hx.b hvm hpg W).2
  have IX := Lib.hid (show Ro.is vm pg x = (decide (x.vm = vm) && decide (x.pg = pg)) from rfl)
  obtain ⟨xv, xp, xt, xf, xw⟩ := x
  simp only at et IX
  rw [← IX.out] at et
  generalize Ro.is vm pg ⟨xv, xp, xt, xf, xw⟩ = hit at *
  have X1 := Lib.hid (Own.new (Below.refl _ w) #[.int .i64 xv, .int .i64 xp, .bool xt, .int .i64 xf, .bool xw] 49)
  have bb := (Below.refl w.heap.size w).alloc (Nat.le_refl _) (.cells #[.int .i64 xv, .int .i64 xp, .bool xt, .int .i64 xf, .bool xw] 49)
  have c1 := (bb.cell (World.block_lt_of_cell? w _ h1)).trans h1
  have c2 := (bb.cell (World.block_lt_of_cell? w _ h2)).trans h2
  clear h1 h2 bb IX
  show Calls Try.prog 16 #[.agg #[.int .i64 xv, .int .i64 xp, .bool xt, .int .i64 xf, .bool xw], .pointer (some ⟨b1, 0, none⟩), .pointer (some ⟨b2, 0, none⟩)] w _
  go_enter Try.func16, Try.ntmps16
  go_upto_region 1 with (fail)
  generalize w.alloc (.cells #[.int .i64 xv, .int .i64 xp, .bool xt, .int .i64 xf, .bool xw] 49) = w1 at *
  have d0 := X1.out.cell (i := 0) rfl
  have d1 := X1.out.cell (i := 1) rfl
  go_wp2
  go_ret
  exact ⟨rfl, X1.out.bel⟩
set_option maxHeartbeats 2000000 in
theorem clo1_calls (x : Ro) (vm : Int) (b1 : Nat) (w : World) (h1 : w.cell? ⟨b1, 0, none⟩ = some (.int .i64 vm)) :
    Calls Try.prog 17 #[.agg x.cells.toArray, .pointer (some ⟨b1, 0, none⟩)] w fun e w' => e = .returned (.bool (x.vm != vm)) ∧ Below w.heap.size w w' := by
  obtain ⟨xv, xp, xt, xf, xw⟩ := x
  have X1 := Lib.hid (Own.new (Below.refl _ w) #[.int .i64 xv, .int .i64 xp, .bool xt, .int .i64 xf, .bool xw] 49)
  have bb := (Below.refl w.heap.size w).alloc (Nat.le_refl _) (.cells #[.int .i64 xv, .int .i64 xp, .bool xt, .int .i64 xf, .bool xw] 49)
  have c1 := (bb.cell (World.block_lt_of_cell? w _ h1)).trans h1
  clear h1 bb
  show Calls Try.prog 17 #[.agg #[.int .i64 xv, .int .i64 xp, .bool xt, .int .i64 xf, .bool xw], .pointer (some ⟨b1, 0, none⟩)] w _
  go_enter Try.func17, Try.ntmps17
  go_upto_region 1 with (fail)
  generalize w.alloc (.cells #[.int .i64 xv, .int .i64 xp, .bool xt, .int .i64 xf, .bool xw] 49) = w1 at *
  have d0 := X1.out.cell (i := 0) rfl
  go_wp2
  go_ret
  exact ⟨rfl, X1.out.bel⟩
def dropR (l : List Ro) (vm pg : Int) : List Ro := l.filter fun x => !Ro.is vm pg x
set_option maxHeartbeats 2000000 in
theorem drop_calls {B p : Nat} {v : Value} {l : List Ro} {w : World} (h : Cv B p v l w) (ho : ∀ x ∈ l, x.Ok) (vm pg : Int) (hvm : (Lit.int .i64 vm).wf = true) (hpg : (Lit.int .i64 pg).wf = true) :
    Calls Try.prog 10 #[.pointer (some ⟨p, 0, none⟩), .int .i64 vm, .int .i64 pg] w (KeepP w p (dropR l vm pg)) := by
  obtain ⟨hB, hsz, bA, bC⟩ := blocks2 w #[.int .i64 vm] #[.int .i64 pg] 3 3 _ rfl
  have KC := Lib.hid (keep2_calls (h.below hB) (fun x => !Ro.is vm pg x) ⟨w.heap.size, 0, none⟩ ⟨w.heap.size + 1, 0, none⟩ (fun x hx wx hb => clo2_calls x (ho x hx) vm pg hvm hpg _ _ wx ((bA.below hb (by omega)).cellAt rfl) ((bC.below hb (by omega)).cellAt rfl)))
  have HB := Lib.hid hB
  have HS := Lib.hid hsz
  clear hB hsz bA bC h ho
  go_enter Try.func10, Try.ntmps10
  go_upto_region 1 with (fail)
  generalize (w.alloc (.cells #[.int .i64 vm] 3)).alloc _ = w1 at *
  go_wp2_with (go_at_call 15; refine KC.out.mono ?_; rintro e w2 ⟨v2, rfl, c2, k2⟩)
  first | go_end0 | refine bodyPost_ret (results_none rfl _ _ _) rfl ?_
  exact ⟨v2, rfl, c2.mono (by have := HS.out; omega), keep_pre HB.out k2⟩
set_option maxHeartbeats 2000000 in
theorem dropVM_calls {B p : Nat} {v : Value} {l : List Ro} {w : World} (h : Cv B p v l w) (vm : Int) :
    Calls Try.prog 13 #[.pointer (some ⟨p, 0, none⟩), .int .i64 vm] w (KeepP w p (l.filter fun x => x.vm != vm)) := by
  have hB : Below w.heap.size w (w.alloc (.cells #[.int .i64 vm] 3)) := (Below.refl _ _).alloc (Nat.le_refl _) _
  have bA := Blk.new w #[.int .i64 vm] 3
  have hsz : (w.alloc (.cells #[.int .i64 vm] 3)).heap.size = w.heap.size + 1 := by simp
  have KC := Lib.hid (keep1_calls (h.below hB) (fun x => x.vm != vm) ⟨w.heap.size, 0, none⟩ (fun x hx wx hb => clo1_calls x vm _ wx ((bA.below hb (by omega)).cellAt rfl)))
  have HB := Lib.hid hB
  have HS := Lib.hid hsz
  clear hB hsz bA h
  go_enter Try.func13, Try.ntmps13
  go_upto_region 1 with (fail)
  generalize w.alloc (.cells #[.int .i64 vm] 3) = w1 at *
  go_wp2_with (go_at_call 15; refine KC.out.mono ?_; rintro e w2 ⟨v2, rfl, c2, k2⟩)
  first | go_end0 | refine bodyPost_ret (results_none rfl _ _ _) rfl ?_
  exact ⟨v2, rfl, c2.mono (by have := HS.out; omega), keep_pre HB.out k2⟩
theorem clear_calls {B p : Nat} {v : Value} {l : List Ro} {w : World} (h : Cv B p v l w) : Calls Try.prog 14 #[.pointer (some ⟨p, 0, none⟩)] w (KeepP w p []) := by
  have c1 := h.c.cellAt (i := 0) rfl
  have f1 := h.c.unfrozen 0
  have CS := Lib.hid (h.c.set 0 (.slice none 0 0))
  clear h
  go_enter Try.func14, Try.ntmps14
  go_wp2
  first | go_end0 | refine bodyPost_ret (results_none rfl _ _ _) rfl ?_
  exact ⟨_, rfl, ⟨CS.out, World.ownsRow_nil _ _ _ _, fun e => (by cases e), by simp⟩, Keep.setCell (S := fun i => i = p) (Keep.refl _ _) (p := ⟨p, 0, none⟩) (fun _ => rfl) _⟩
theorem len_calls {B p : Nat} {v : Value} {l : List Ro} {w : World} (h : Cv B p v l w) : Calls Try.prog 12 #[.pointer (some ⟨p, 0, none⟩)] w fun e w' => e = .returned (.int .i64 (l.length : Int)) ∧ w = w' := by
  have c1 := h.c.cellAt (i := 0) rfl
  obtain ⟨a, cap, hv⟩ := own_form h.r
  rw [hv] at c1
  clear h hv
  go_enter Try.func12, Try.ntmps12
  go_wp2
  go_ret
  exact ⟨rfl, rfl⟩
end Go.Proofs.Ytiihhpbobebliaa.Walks
