/- Walks through the functions of the statement, and the statement over them: each contract says what the call answers and that nothing else changes. -/
import Derived.Test.YtigeadiclajkjaaProg
import Derived.Laws.BytesString
import Derived.Test.YtigeadiclajkjaaBits
import Derived.Test.YtigeadiclajkjaaHeap
import Derived.Test.YtigeadiclajkjaaAid
import Derived.Lib.Hide
import Derived.Test.YtigeadiclajkjaaArr
import Derived.Test.YtigeadiclajkjaaEql
import Derived.WalkKit
import Derived.WalkSpells
import Derived.WalkLawsBesides
import Derived.Deep.QuietTactic
import Derived.BigQuiet
import Derived.Deep.RegionHeld3
import Derived.Deep.DeepCutAuto
import Derived.Deep.CutBlock
import Derived.Lib.SlBytesConst
import Derived.StillTailTactics
import Derived.Laws.MakeOwn
import Derived.Deep.AppendLies
import Derived.Laws.CopyOwn
import Derived.Maps.AppendAt
import Derived.Deep.Upon
import Derived.Deep.AppendSrc
import Derived.RegionTactic
import Derived.Deep.RegionLaw
import Derived.Shelf.Abstract
namespace Go.Proofs.Ytigeadiclajkjaa.Walks
set_option linter.unusedVariables false
set_option linter.unusedSimpArgs false
open Go.RowKit Go.Proofs.Ytigeadiclajkjaa.Bits Go.Proofs.Ytigeadiclajkjaa.Heap Go.Proofs.Ytigeadiclajkjaa.Aid Go.Proofs.Ytigeadiclajkjaa.Arr Go.Proofs.Ytigeadiclajkjaa.Eql

/-- The block that holds the instruction, in any later world. -/
structure Inv (w : World) (cs : List Value) (t : TypeId) (w' : World) : Prop where
  b : Below w.heap.size w w'
  k : Blk w' w.heap.size cs t
  z : w.heap.size < w'.heap.size
theorem Inv.step {w w1 w2 : World} {cs : List Value} {t : TypeId} (h : Inv w cs t w1) (hb : Below w1.heap.size w1 w2) : Inv w cs t w2 :=
  ⟨h.b.trans (hb.mono h.b.size), h.k.below hb h.z, Nat.lt_of_lt_of_le h.z hb.size⟩
theorem Inv.drewN {w w1 : World} {cs : List Value} {t : TypeId} (h : Inv w cs t w1) (m : Nat) : Inv w cs t (w1.drewN m) :=
  ⟨below_drewN h.b m, h.k.drewN m, h.z⟩
theorem Inv.new (w : World) (A : Array Value) (t : TypeId) : Inv w A.toList t (w.alloc (.cells A t)) :=
  ⟨(Below.refl _ _).alloc (Nat.le_refl _) _, Blk.new w _ _, by simp⟩
theorem Inv.set {w w1 : World} {cs : List Value} {t : TypeId} (h : Inv w cs t w1) (k : Nat) (v : Value) : Inv w (cs.set k v) t (w1.setCell ⟨w.heap.size, k, none⟩ v) :=
  ⟨h.b.setCell (Nat.le_refl _) v, h.k.set k v, by have := h.z; simpa [World.setCell] using this⟩
theorem Inv.setAll {w w1 : World} {cs : List Value} {t : TypeId} (h : Inv w cs t w1) (vs : List Value) (hl : vs.length = cs.length) : Inv w vs t (w1.setCells w.heap.size 0 vs) :=
  ⟨below_setCells h.b (Nat.le_refl _) 0 vs, blk_setAll h.k hl, by have := h.z; rw [size_setCells]; exact this⟩
/-- A call that writes block b alone (of those that were), which then holds these cells. -/
structure Upd (b : Nat) (cs : List Value) (t : TypeId) (w w' : World) : Prop where
  k : Keep (fun i => i = b) w w'
  c : Blk w' b cs t
theorem Upd.same {b : Nat} {cs : List Value} {t : TypeId} {w : World} (h : Blk w b cs t) : Upd b cs t w w := ⟨Keep.refl _ _, h⟩
theorem Upd.drewN {b : Nat} {cs : List Value} {t : TypeId} {w w' : World} (h : Upd b cs t w w') (n : Nat) : Upd b cs t w (w'.drewN n) := ⟨h.k.drewN n, h.c.drewN n⟩
theorem Upd.set {b : Nat} {cs : List Value} {t : TypeId} {w w' : World} (h : Upd b cs t w w') (i : Nat) (v : Value) : Upd b (cs.set i v) t w (w'.setCell ⟨b, i, none⟩ v) :=
  ⟨h.k.setCell (fun _ => rfl) v, h.c.set i v⟩
theorem Upd.setAll {b : Nat} {cs : List Value} {t : TypeId} {w w' : World} (h : Upd b cs t w w') (vs : List Value) (hl : vs.length = cs.length) : Upd b vs t w (w'.setCells b 0 vs) :=
  ⟨keep_setCells h.k (fun _ => rfl) 0 vs, blk_setAll h.c hl⟩
theorem Upd.trans {b : Nat} {cs cs' : List Value} {t t' : TypeId} {w w' w'' : World} (h : Upd b cs t w w') (k : Upd b cs' t' w' w'') : Upd b cs' t' w w'' := ⟨h.k.trans k.k, k.c⟩
theorem Upd.step {b : Nat} {cs : List Value} {t : TypeId} {w w' w'' : World} (h : Upd b cs t w w') (k : Below w'.heap.size w' w'') : Upd b cs t w w'' :=
  ⟨h.k.step (S' := fun _ => False) (Keep.of_below k) (fun _ _ h => h.elim), h.c.below k h.c.lt⟩
theorem Upd.below {b : Nat} {cs : List Value} {t : TypeId} {w0 w w' : World} (h : Upd b cs t w w') (h0 : Below w0.heap.size w0 w) (hb : w0.heap.size ≤ b) : Below w0.heap.size w0 w' :=
  Keep.belowB h0 h.k h0.size (fun i hi e => by omega)
theorem Upd.blk {b b' : Nat} {cs cs' : List Value} {t t' : TypeId} {w w' : World} (h : Upd b cs t w w') (k : Blk w b' cs' t') (hb : b' ≠ b) : Blk w' b' cs' t' := k.keep h.k hb
theorem Inv.upd {w w1 w2 : World} {cs cs' : List Value} {t t' : TypeId} (h : Inv w cs t w1) (u : Upd w.heap.size cs' t' w1 w2) : Inv w cs' t' w2 :=
  ⟨u.below h.b (Nat.le_refl _), u.c, Nat.lt_of_lt_of_le h.z u.k.size⟩
theorem Inv.other {w w1 w2 : World} {cs cs' : List Value} {t t' : TypeId} {b : Nat} (h : Inv w cs t w1) (u : Upd b cs' t' w1 w2) (hb : w.heap.size < b) : Inv w cs t w2 :=
  ⟨u.below h.b (Nat.le_of_lt hb), u.blk h.k (by omega), Nat.lt_of_lt_of_le h.z u.k.size⟩
/-- A block of the call's own (made since w) that holds these cells; nothing that was there at w has changed. -/
structure Own (w : World) (b : Nat) (cs : List Value) (t : TypeId) (w' : World) : Prop where
  bel : Below w.heap.size w w'
  n : w.heap.size ≤ b
  k : Blk w' b cs t
theorem Own.lt {w w1 : World} {b : Nat} {cs : List Value} {t : TypeId} (h : Own w b cs t w1) : b < w1.heap.size := h.k.lt
theorem Own.new {w w1 : World} (hb : Below w.heap.size w w1) (A : Array Value) (t : TypeId) : Own w w1.heap.size A.toList t (w1.alloc (.cells A t)) :=
  ⟨hb.alloc hb.size _, hb.size, Blk.new w1 _ _⟩
theorem Own.newL {w w1 : World} (hb : Below w.heap.size w w1) (cs : List Value) (t : TypeId) : Own w w1.heap.size cs t (w1.alloc (.cells cs.toArray t)) := Own.new hb cs.toArray t
theorem Own.alloc {w w1 : World} {b : Nat} {cs : List Value} {t : TypeId} (h : Own w b cs t w1) (o : Obj) : Own w b cs t (w1.alloc o) := ⟨h.bel.alloc h.bel.size _, h.n, h.k.alloc o⟩
theorem Own.step {w w1 w2 : World} {b : Nat} {cs : List Value} {t : TypeId} (h : Own w b cs t w1) (hb : Below w1.heap.size w1 w2) : Own w b cs t w2 :=
  ⟨h.bel.trans (hb.mono h.bel.size), h.n, h.k.below hb h.lt⟩
theorem Own.drewN {w w1 : World} {b : Nat} {cs : List Value} {t : TypeId} (h : Own w b cs t w1) (m : Nat) : Own w b cs t (w1.drewN m) := ⟨below_drewN h.bel m, h.n, h.k.drewN m⟩
theorem Own.set {w w1 : World} {b : Nat} {cs : List Value} {t : TypeId} (h : Own w b cs t w1) (k : Nat) (v : Value) : Own w b (cs.set k v) t (w1.setCell ⟨b, k, none⟩ v) :=
  ⟨h.bel.setCell h.n v, h.n, h.k.set k v⟩
theorem Own.setAll {w w1 : World} {b : Nat} {cs : List Value} {t : TypeId} (h : Own w b cs t w1) (vs : List Value) (hl : vs.length = cs.length) : Own w b vs t (w1.setCells b 0 vs) :=
  ⟨below_setCells h.bel h.n 0 vs, h.n, blk_setAll h.k hl⟩
theorem Own.setO {w w1 : World} {b b' : Nat} {cs : List Value} {t : TypeId} (h : Own w b cs t w1) (hb : b' ≠ b) (hn : w.heap.size ≤ b') (k : Nat) (v : Value) : Own w b cs t (w1.setCell ⟨b', k, none⟩ v) :=
  ⟨h.bel.setCell hn v, h.n, h.k.other hb v⟩
theorem Own.setAllO {w w1 : World} {b b' : Nat} {cs : List Value} {t : TypeId} (h : Own w b cs t w1) (hb : b' ≠ b) (hn : w.heap.size ≤ b') (o : Nat) (vs : List Value) : Own w b cs t (w1.setCells b' o vs) :=
  ⟨below_setCells h.bel hn o vs, h.n, blk_setOther h.k (Ne.symm hb) o vs⟩
theorem Own.upd {w w1 w2 : World} {b : Nat} {cs cs' : List Value} {t t' : TypeId} (h : Own w b cs t w1) (u : Upd b cs' t' w1 w2) : Own w b cs' t' w2 := ⟨u.below h.bel h.n, h.n, u.c⟩
theorem Own.updO {w w1 w2 : World} {b b' : Nat} {cs cs' : List Value} {t t' : TypeId} (h : Own w b cs t w1) (hb : b' ≠ b) (hn : w.heap.size ≤ b') (u : Upd b' cs' t' w1 w2) : Own w b cs t w2 := ⟨u.below h.bel hn, h.n, u.blk h.k (Ne.symm hb)⟩
theorem Own.cell {w w1 : World} {b : Nat} {cs : List Value} {t : TypeId} (h : Own w b cs t w1) {i : Nat} {v : Value} (hv : cs[i]? = some v) : w1.cell? ⟨b, i, none⟩ = some v := h.k.cellAt hv
theorem Own.fro {w w1 : World} {b : Nat} {cs : List Value} {t : TypeId} (h : Own w b cs t w1) (i : Nat) : w1.frozen? ⟨b, i, none⟩ = false := h.k.unfrozen i
theorem Own.all {w w1 : World} {b : Nat} {cs : List Value} {t : TypeId} (h : Own w b cs t w1) : w1.rangeAt b 0 cs := range_all h.k
theorem Own.there {w w1 : World} {b : Nat} {cs : List Value} {t : TypeId} (h : Own w b cs t w1) {n : Nat} (hn : n ≤ cs.length) : w1.there b 0 n := there_of_blk h.k (by omega)
theorem Own.drew' {w w1 w2 : World} {b : Nat} {cs : List Value} {t : TypeId} (h : Own w b cs t w1) (hm : ∃ n, w2 = w1.drewN n) : Own w b cs t w2 := by
  obtain ⟨n, rfl⟩ := hm
  exact h.drewN n
/-- A world in which a row of the call's own has grown. -/
theorem keep_grown {w w' : World} {row : Option Nat} (h : w.grownBy w' row) : Keep (fun i => row = some i) w w' :=
  ⟨h.os, h.tape, h.output, h.size, fun k hk hs => h.block k hk (fun e => hs e.symm)⟩
theorem below_grown {w0 w w' : World} {row : Option Nat} (hb : Below w0.heap.size w0 w) (h : w.grownBy w' row) (hr : ∀ k, row = some k → w0.heap.size ≤ k) : Below w0.heap.size w0 w' :=
  Keep.belowB hb (keep_grown h) hb.size (fun i hi e => by have := hr i e; omega)
theorem sl_form {w : World} {base : Nat} {e : TypeId} {size : Nat} {v : Value} {n : Nat} {xs : List Value} (h : w.ownsRow base e size v n xs) (hn : 0 < n) :
    ∃ g cap sp, v = .slice (some ⟨g, 0, none⟩) n cap ∧ base ≤ g ∧ n ≤ cap ∧ cap ≤ maxLen ∧ Blk w g (xs ++ sp) e := by
  rcases h.2 with ⟨_, h0⟩ | ⟨g, cap, cur, hv, hb, hg, hc, hm, hs, ht⟩
  · omega
  · refine ⟨g, cap, cur.toList.drop (n * size), hv, hb, hc, hm, ?_⟩
    have e1 : xs ++ cur.toList.drop (n * size) = cur.toList := by rw [← ht, List.take_append_drop]
    unfold Blk
    rw [e1]
    simpa using hg
theorem sl_zero {w : World} {base : Nat} {e : TypeId} {size : Nat} {v : Value} {xs : List Value} (h : w.ownsRow base e size v 0 xs) : xs = [] := by
  have := h.1
  simpa using this
/-- A row of the call's own, in a world in which its block stands. -/
theorem sl_keep {w w' : World} {S : Nat → Prop} {base : Nat} {e : TypeId} {size : Nat} {v : Value} {n : Nat} {xs : List Value} (h : w.ownsRow base e size v n xs) (k : Keep S w w') (hs : ∀ g, v.ownBlock = some g → ¬ S g) : w'.ownsRow base e size v n xs := by
  refine ⟨h.1, ?_⟩
  rcases h.2 with h0 | ⟨g, cap, cur, hv, hb, hg, hr⟩
  · exact .inl h0
  · refine .inr ⟨g, cap, cur, hv, hb, ?_, hr⟩
    have hl : g < w.heap.size := by
      rcases Nat.lt_or_ge g w.heap.size with h1 | h1
      · exact h1
      · rw [Array.getElem?_eq_none h1] at hg; cases hg
    rw [k.block g hl (hs g (by rw [hv]; rfl)), hg]
theorem sl_below {w w' : World} {base : Nat} {e : TypeId} {size : Nat} {v : Value} {n : Nat} {xs : List Value} (h : w.ownsRow base e size v n xs) (hb : Below w.heap.size w w') : w'.ownsRow base e size v n xs :=
  sl_keep (S := fun _ => False) h (Keep.of_below hb) (fun _ _ h => h)
theorem news_blk {w : World} {b : Nat} {cs sp : List Value} {t : TypeId} (h : Blk w b (cs ++ sp) t) : ∀ j u, cs[j]? = some u → w.cell? ((⟨b, 0, none⟩ : Addr).add j) = some u := fun j u hu => by
  rw [add_blk]
  refine h.cellAt ?_
  have hj : j < cs.length := by
    rcases Nat.lt_or_ge j cs.length with h1 | h1
    · exact h1
    · rw [List.getElem?_eq_none h1] at hu; cases hu
  rw [List.getElem?_append_left hj, hu]
theorem Own.keep {S : Nat → Prop} {w w1 w2 : World} {b : Nat} {cs : List Value} {t : TypeId} (h : Own w b cs t w1) (k : Keep S w1 w2) (hb : ¬ S b) (hs : ∀ i, i < w.heap.size → ¬ S i) : Own w b cs t w2 :=
  ⟨Keep.belowB h.bel k h.bel.size hs, h.n, h.k.keep k hb⟩
theorem own_ge {w : World} {base : Nat} {e : TypeId} {size : Nat} {v : Value} {n : Nat} {xs : List Value} (h : w.ownsRow base e size v n xs) : ∀ g, v.ownBlock = some g → base ≤ g := fun g hg => (World.ownsRow.lt h g hg).1
theorem own_form {w : World} {base : Nat} {e : TypeId} {size : Nat} {v : Value} {n : Nat} {xs : List Value} (h : w.ownsRow base e size v n xs) : ∃ a cap, v = .slice a n cap := by
  rcases h.2 with ⟨hv, h0⟩ | ⟨g, cap, cur, hv, _⟩
  · exact ⟨none, 0, by rw [hv, h0]⟩
  · exact ⟨_, cap, hv⟩
/-- Is this load, this store, ahead? (Asked ahead of a law, so that a law that does not fit fails at once.) -/
theorem load_gate {P : Program} {ops : Array Oper} {Q : Exit → Act → World → Prop} {rest : List Oper} {a : Act} {w : World} {dst : Option Tmp} {t : TypeId} {pos : String} {aft : Array Edge} {g : Option (Nat × Bool)} (ty : TypeId) (n : Tmp)
    (h : wpList P ops Q (⟨dst, .load ty (.tmp n), t, pos, aft, g⟩ :: rest) a w) : wpList P ops Q (⟨dst, .load ty (.tmp n), t, pos, aft, g⟩ :: rest) a w := h
theorem store_gate {P : Program} {ops : Array Oper} {Q : Exit → Act → World → Prop} {rest : List Oper} {a : Act} {w : World} {dst : Option Tmp} {t : TypeId} {pos : String} {aft : Array Edge} {g : Option (Nat × Bool)} (ty : TypeId) (n m : Tmp)
    (h : wpList P ops Q (⟨dst, .store ty (.tmp n) (.tmp m), t, pos, aft, g⟩ :: rest) a w) : wpList P ops Q (⟨dst, .store ty (.tmp n) (.tmp m), t, pos, aft, g⟩ :: rest) a w := h
/-- Is this call ahead, at a step of a region that draws? -/
theorem call_gate {P : Program} {ops : Array Oper} {a : Act} {w : World} {K : Act → World → Prop} {Q : Exit → Act → World → Prop} {E : Prop} {dst : Option Tmp} {t : TypeId} {pos : String} {aft : Array Edge} {g : Option (Nat × Bool)} {args : Array Operand} {ats : Array TypeId} (f : FuncId)
    (h : if Region.wanted ⟨dst, .call { callee := .value (.func f), args := args, argTypes := ats }, t, pos, aft, g⟩ (yielded ops a.tmps) = true then Oper.wp P ⟨dst, .call { callee := .value (.func f), args := args, argTypes := ats }, t, pos, aft, g⟩ a w K Q else E) :
    if Region.wanted ⟨dst, .call { callee := .value (.func f), args := args, argTypes := ats }, t, pos, aft, g⟩ (yielded ops a.tmps) = true then Oper.wp P ⟨dst, .call { callee := .value (.func f), args := args, argTypes := ats }, t, pos, aft, g⟩ a w K Q else E := h
theorem byte_info : ∃ i, Try.prog.info? 5 = some i ∧ i.zero = some (.int .u8 0) ∧ i.size = 1 ∧ i.bytes = 1 := by
  have h : (Try.prog.info? 5).map (fun i => (i.zero, i.size, i.bytes)) = some (some (.int .u8 0), 1, 1) := by kernel_rfl
  obtain ⟨i, hi, he⟩ := Option.map_eq_some_iff.1 h
  simp only [Prod.mk.injEq] at he
  exact ⟨i, hi, he.1, he.2.1, he.2.2⟩
theorem one_enc8 (l : List Nat) : ∀ v ∈ l.map enc8, v.oneCell' = true := by
  intro v hv
  obtain ⟨x, _, rfl⟩ := List.mem_map.1 hv
  rfl
theorem add_off (q i j : Nat) : (⟨q, i, none⟩ : Addr).add j = ⟨q, i + j, none⟩ := by
  unfold Addr.add
  split
  · rename_i h; rw [h]; rfl
  · rfl
theorem bytes_at {w : World} {q : Nat} {l : List Nat} {sp : List Value} {t : TypeId} (h : Blk w q (l.map enc8 ++ sp) t) (i n : Nat) : ∀ j u, (((l.drop i).take n).map enc8)[j]? = some u → w.cell? ((⟨q, i, none⟩ : Addr).add j) = some u := fun j u hu => by
  rw [add_off]
  refine h.cellAt ?_
  rw [List.getElem?_map] at hu
  obtain ⟨x, hx, rfl⟩ := Option.map_eq_some_iff.1 hu
  have hj := (List.getElem?_eq_some_iff.1 hx).1
  rw [List.length_take, List.length_drop] at hj
  rw [List.getElem?_take, if_pos (by omega), List.getElem?_drop] at hx
  rw [List.getElem?_append_left (by rw [List.length_map]; omega), List.getElem?_map, hx]
  rfl
theorem row_owns {w : World} {base : Nat} {e : TypeId} {v : Value} {n : Nat} {l : List Nat} (h : w.ownsRow base e 1 v n (l.map enc8)) : Row w enc8 v l := by
  have hl : l.length = n := by have := h.1; simpa using this
  by_cases h0 : 0 < n
  · obtain ⟨g, cap, sp, rfl, _, hc, _, hb⟩ := sl_form h h0
    subst hl
    refine .inr ⟨⟨g, 0, none⟩, cap, rfl, hc, fun i x hi => ?_⟩
    exact news_blk hb i _ (by rw [List.getElem?_map, hi]; rfl)
  · have h1 : n = 0 := by omega
    subst h1
    have h2 : l = [] := List.eq_nil_of_length_eq_zero hl
    subst h2
    rcases h.2 with ⟨hv, _⟩ | ⟨g, cap, cur, hv, _, _, hc, _⟩
    · exact .inl ⟨hv, rfl⟩
    · exact .inr ⟨⟨g, 0, none⟩, cap, hv, hc, fun i x hi => by simp at hi⟩
theorem size1 : (Try.prog.info? 5).map (·.size) = some 1 := by kernel_rfl
/-- A slice of the call's own, out of a block that is known whole. -/
theorem owns_blk {w : World} {g base : Nat} {cs : List Value} {e : TypeId} (h : Blk w g cs e) (hb : base ≤ g) (hm : cs.length ≤ maxLen) : w.ownsRow base e 1 (.slice (some ⟨g, 0, none⟩) cs.length cs.length) cs.length cs :=
  ⟨by simp, .inr ⟨g, cs.length, cs.toArray, rfl, hb, h, Nat.le_refl _, hm, by simp, by simp⟩⟩
/-- append of a slice that reads as a list (nil, or empty, or not) onto a slice of the call's own. -/
theorem run_append_row {P : Program} {α : Type} {enc : α → Value} (h1 : ∀ x, (enc x).oneCell' = true) (w : World) (base : Nat) (t ty e : TypeId) (i : TypeInfo) (z : Value) (bytes : Nat) (ht : P.underlying t = some (.slice e)) (hi : P.info? e = some i) (hz : i.zero = some z)
    (hsize : i.size = 1) (hby : i.bytes = bytes) (hzs : z.cells.size = 1) (v : Value) (n : Nat) (xs : List Value) (hown : w.ownsRow base e 1 v n xs) (sv : Value) (l : List α) (hr : Row w enc sv l)
    (h63 : n + l.length ≤ maxLen) (hbytes : (n + l.length) * bytes ≤ 140737488355328) (hbase : base ≤ w.heap.size) :
    ∃ v' w', (Builtin.append_ #[t, t] ty #[v, sv]).run P w = .ok v' w' ∧ w'.ownsRow base e 1 v' (n + l.length) (xs ++ l.map enc) ∧ w.grownBy w' v.ownBlock ∧ (v'.ownBlock = v.ownBlock ∨ v'.ownBlock = some w.heap.size) := by
  rcases hr with ⟨rfl, rfl⟩ | ⟨a, cap, rfl, _, hc⟩
  · have hle : ∃ b sl sc, v = .slice b sl sc ∧ sl ≤ sc := by
      rcases hown.2 with ⟨hv, _⟩ | ⟨g, c, _, hv, _, _, hc, _⟩
      · exact ⟨none, 0, 0, hv, Nat.le_refl _⟩
      · exact ⟨_, n, c, hv, hc⟩
    obtain ⟨b, sl, sc, rfl, hle⟩ := hle
    refine ⟨_, w, run_append_nothing w t t ty e i ht hi b sl sc hle _ (Src.ofNil w ht 0), by simpa using hown, ⟨rfl, rfl, rfl, Nat.le_refl _, fun _ _ _ => rfl⟩, .inl rfl⟩
  · obtain ⟨v', w', hr, h2, h3, _, h5⟩ := run_append_own_at (P := P) w base t ty e i z 1 bytes ht hi hz hsize hby hzs (by omega) v n xs hown a l.length cap (l.map enc) (by simp) (fun j u hj => by
      rw [List.getElem?_map] at hj
      obtain ⟨x, hx, rfl⟩ := Option.map_eq_some_iff.1 hj
      exact hc j x hx) (fun u hu => by
      obtain ⟨x, _, rfl⟩ := List.mem_map.1 hu
      exact h1 x) h63 hbytes hbase
    exact ⟨v', w', hr, h2, h3, h5⟩
theorem wp_append_row {P : Program} {α : Type} {enc : α → Value} (h1 : ∀ x, (enc x).oneCell' = true) {w : World} {o : Oper} {a : Act} {K : Act → World → Prop} {Q : Exit → Act → World → Prop} (s x : Operand) (t : TypeId)
    (ho : o.op = .call { callee := .builtin .append, args := #[s, x], argTypes := #[t, t] }) (base : Nat) (e : TypeId) (i : TypeInfo) (z : Value) (bytes : Nat) (ht : P.underlying t = some (.slice e)) (hi : P.info? e = some i) (hz : i.zero = some z)
    (hsize : i.size = 1) (hby : i.bytes = bytes) (hzs : z.cells.size = 1) (v : Value) (n : Nat) (xs : List Value) (hs : a.eval s = v) (hown : w.ownsRow base e 1 v n xs) (sv : Value) (l : List α) (hx : a.eval x = sv) (hr : Row w enc sv l)
    (h63 : n + l.length ≤ maxLen) (hbytes : (n + l.length) * bytes ≤ 140737488355328) (hbase : base ≤ w.heap.size)
    (h : ∀ v' w', w'.ownsRow base e 1 v' (n + l.length) (xs ++ l.map enc) → w.grownBy w' v.ownBlock → (v'.ownBlock = v.ownBlock ∨ v'.ownBlock = some w.heap.size) → K (a.put o.dst v') w') : o.wp P a w K Q := by
  obtain ⟨v', w', hr, h2, h3, h4⟩ := run_append_row (P := P) h1 w base t o.type e i z bytes ht hi hz hsize hby hzs v n xs hown sv l hr h63 hbytes hbase
  unfold Oper.wp execOp
  simp only [ho, resolve, invoke, builtin, Sem.run_bind, Sem.run_pure, Result.andThen_ok, List.map_toArray, List.map_cons, List.map_nil, hs, hx, hr]
  exact h v' w' h2 h3 h4
theorem wpList_append_row {P : Program} {α : Type} {enc : α → Value} (h1 : ∀ x, (enc x).oneCell' = true) {w : World} {ops : Array Oper} {rest : List Oper} {o : Oper} {a : Act} {Q : Exit → Act → World → Prop} (hgd : o.guard = none) (s x : Operand) (t : TypeId)
    (ho : o.op = .call { callee := .builtin .append, args := #[s, x], argTypes := #[t, t] }) (base : Nat) (e : TypeId) (i : TypeInfo) (z : Value) (bytes : Nat) (ht : P.underlying t = some (.slice e)) (hi : P.info? e = some i) (hz : i.zero = some z)
    (hsize : i.size = 1) (hby : i.bytes = bytes) (hzs : z.cells.size = 1) (v : Value) (n : Nat) (xs : List Value) (hs : a.eval s = v) (hown : w.ownsRow base e 1 v n xs) (sv : Value) (l : List α) (hx : a.eval x = sv) (hr : Row w enc sv l)
    (h63 : n + l.length ≤ maxLen) (hbytes : (n + l.length) * bytes ≤ 140737488355328) (hbase : base ≤ w.heap.size)
    (h : ∀ v' w', w'.ownsRow base e 1 v' (n + l.length) (xs ++ l.map enc) → w.grownBy w' v.ownBlock → (v'.ownBlock = v.ownBlock ∨ v'.ownBlock = some w.heap.size) → wpList P ops Q rest (a.put o.dst v') w') : wpList P ops Q (o :: rest) a w :=
  wpList_plain hgd fun _ hK => wp_append_row h1 s x t ho base e i z bytes ht hi hz hsize hby hzs v n xs hs hown sv l hx hr h63 hbytes hbase fun v' w' h2 h3 h4 => hK _ _ (h v' w' h2 h3 h4)
theorem step_append_row {P : Program} {α : Type} {enc : α → Value} (h1 : ∀ x, (enc x).oneCell' = true) {w : World} {ops : Array Oper} {o : Oper} {a : Act} {K : Act → World → Prop} {Q : Exit → Act → World → Prop} {E : Prop} (hgd : o.guard = none) (s x : Operand) (t : TypeId)
    (ho : o.op = .call { callee := .builtin .append, args := #[s, x], argTypes := #[t, t] }) (base : Nat) (e : TypeId) (i : TypeInfo) (z : Value) (bytes : Nat) (ht : P.underlying t = some (.slice e)) (hi : P.info? e = some i) (hz : i.zero = some z)
    (hsize : i.size = 1) (hby : i.bytes = bytes) (hzs : z.cells.size = 1) (v : Value) (n : Nat) (xs : List Value) (hs : a.eval s = v) (hown : w.ownsRow base e 1 v n xs) (sv : Value) (l : List α) (hx : a.eval x = sv) (hr : Row w enc sv l)
    (h63 : n + l.length ≤ maxLen) (hbytes : (n + l.length) * bytes ≤ 140737488355328) (hbase : base ≤ w.heap.size)
    (h : ∀ v' w', w'.ownsRow base e 1 v' (n + l.length) (xs ++ l.map enc) → w.grownBy w' v.ownBlock → (v'.ownBlock = v.ownBlock ∨ v'.ownBlock = some w.heap.size) → K (a.put o.dst v') w') :
    if Region.wanted o (yielded ops a.tmps) = true then Oper.wp P o a w K Q else E := by
  have hw : Region.wanted o (yielded ops a.tmps) = true := by simp [Region.wanted, hgd]
  rw [if_pos hw]
  exact wp_append_row h1 s x t ho base e i z bytes ht hi hz hsize hby hzs v n xs hs hown sv l hx hr h63 hbytes hbase h
theorem enc8_one : ∀ x : Nat, (enc8 x).oneCell' = true := fun _ => rfl
theorem enc64_one : ∀ x : Nat, (enc64 x).oneCell' = true := fun _ => rfl
/-- Bytes of the call's own: slice v holds l. -/
structure Bs (w0 : World) (base : Nat) (v : Value) (l : List Nat) (w : World) : Prop where
  bel : Below w0.heap.size w0 w
  n : w0.heap.size ≤ base
  m : base ≤ w.heap.size
  r : w.ownsRow base 5 1 v l.length (l.map enc8)
theorem Bs.nil {w0 w : World} (h : Below w0.heap.size w0 w) : Bs w0 w.heap.size (.slice none 0 0) [] w := ⟨h, h.size, Nat.le_refl _, World.ownsRow_nil _ _ _ _⟩
theorem Bs.step {w0 w w' : World} {base : Nat} {v : Value} {l : List Nat} (h : Bs w0 base v l w) (hb : Below w.heap.size w w') : Bs w0 base v l w' := ⟨h.bel.trans (hb.mono h.bel.size), h.n, Nat.le_trans h.m hb.size, sl_below h.r hb⟩
theorem Bs.grow {w0 w w' : World} {base : Nat} {v v' : Value} {l s : List Nat} (h : Bs w0 base v l w) (hr : w'.ownsRow base 5 1 v' (l.length + s.length) (l.map enc8 ++ s.map enc8)) (hg : w.grownBy w' v.ownBlock) : Bs w0 base v' (l ++ s) w' :=
  ⟨below_grown h.bel hg (fun k hk => Nat.le_trans h.n (own_ge h.r k hk)), h.n, Nat.le_trans h.m hg.size, by rw [List.length_append, List.map_append]; exact hr⟩
/-- What lies elsewhere stays: a row that was made since. -/
theorem Bs.other {w0 w w' : World} {base base2 : Nat} {v v2 : Value} {l l2 : List Nat} (h : Bs w0 base v l w) (h2 : Bs w0 base2 v2 l2 w) (hb : ∀ g, v2.ownBlock = some g → g < base) (hg : w.grownBy w' v2.ownBlock) : Bs w0 base v l w' :=
  ⟨below_grown h.bel hg (fun k hk => Nat.le_trans h2.n (own_ge h2.r k hk)), h.n, Nat.le_trans h.m hg.size, sl_keep h.r (keep_grown hg) (fun g e e2 => by have := own_ge h.r g e; have := hb g e2; omega)⟩
theorem Bs.lt {w0 w : World} {base : Nat} {v : Value} {l : List Nat} (h : Bs w0 base v l w) : ∀ g, v.ownBlock = some g → g < w.heap.size := fun g hg => (World.ownsRow.lt h.r g hg).2
theorem Bs.row {w0 w : World} {base : Nat} {v : Value} {l : List Nat} (h : Bs w0 base v l w) : Row w enc8 v l := row_owns h.r
theorem Bs.base {w0 w : World} {base base' : Nat} {v : Value} {l : List Nat} (h : Bs w0 base v l w) (h1 : w0.heap.size ≤ base') (h2 : base' ≤ base) : Bs w0 base' v l w :=
  ⟨h.bel, h1, Nat.le_trans h2 h.m, ⟨h.r.1, by
    rcases h.r.2 with h0 | ⟨g, cap, cur, hv, hg, hr⟩
    · exact .inl h0
    · exact .inr ⟨g, cap, cur, hv, Nat.le_trans h2 hg, hr⟩⟩⟩
/-! The heap as a list: plain laws. -/
def swapL (h : List Nat) (i j : Nat) : List Nat := (h.set i (h.getD j 0)).set j (h.getD i 0)
theorem getD_el {h : List Nat} {i : Nat} (hi : i < h.length) : h.getD i 0 = h[i] := by
  rw [List.getD_eq_getElem?_getD, List.getElem?_eq_getElem hi]; rfl
theorem swapL_length (h : List Nat) (i j : Nat) : (swapL h i j).length = h.length := by simp [swapL]
theorem swapL_get (h : List Nat) {i j : Nat} (hi : i < h.length) (hj : j < h.length) (k : Nat) : (swapL h i j).getD k 0 = if k = j then h.getD i 0 else if k = i then h.getD j 0 else h.getD k 0 := by
  unfold swapL
  simp only [List.getD_eq_getElem?_getD, List.getElem?_set, List.length_set]
  by_cases h1 : k = j
  · subst h1; simp [hj]
  · by_cases h2 : k = i
    · subst h2; simp [h1, hi, Ne.symm h1]
    · simp [h1, h2, Ne.symm h1, Ne.symm h2]
theorem getD_some {h : List Nat} {i : Nat} (hi : i < h.length) : h[i]? = some (h.getD i 0) := by
  rw [List.getD_eq_getElem?_getD, List.getElem?_eq_getElem hi]; rfl
theorem swapL_perm (h : List Nat) {i j : Nat} (hi : i < h.length) (hj : j < h.length) : (swapL h i j).Perm h := by
  rw [List.perm_iff_count]
  intro a
  unfold swapL
  by_cases he : i = j
  · subst he
    rw [List.set_set, getD_el hi, List.set_getElem_self]
  · have hj2 : j < (h.set i (h.getD j 0)).length := by simp [hj]
    rw [List.count_set hj2, List.count_set hi, List.getElem_set_ne he]
    simp only [getD_el hi, getD_el hj]
    have c1 : (if h[i] == a then 1 else 0) ≤ List.count a h := by
      split
      · rename_i e
        have : h[i] ∈ h := List.getElem_mem hi
        have e2 : h[i] = a := by simpa using e
        rw [e2] at this
        exact List.count_pos_iff.2 this
      · omega
    by_cases e1 : (h[i] == a) = true <;> by_cases e2 : (h[j] == a) = true <;> simp only [e1, e2, if_true, if_false, Bool.false_eq_true] at c1 ⊢ <;> omega
def kidL (h : List Nat) (i n : Nat) : Nat := if 2 * i + 2 < n ∧ h.getD (2 * i + 2) 0 < h.getD (2 * i + 1) 0 then 2 * i + 2 else 2 * i + 1
def downL : Nat → List Nat → Nat → Nat → List Nat
  | 0, h, _, _ => h
  | f + 1, h, i, n => if n ≤ 2 * i + 1 then h else if h.getD (kidL h i n) 0 < h.getD i 0 then downL f (swapL h i (kidL h i n)) (kidL h i n) n else h
def upL : Nat → List Nat → Nat → List Nat
  | 0, h, _ => h
  | f + 1, h, j => if j = 0 then h else if h.getD j 0 < h.getD ((j - 1) / 2) 0 then upL f (swapL h ((j - 1) / 2) j) ((j - 1) / 2) else h
def HeapN (h : List Nat) (n : Nat) : Prop := ∀ k, 0 < k → k < n → h.getD ((k - 1) / 2) 0 ≤ h.getD k 0
theorem downL_length : ∀ (f : Nat) (h : List Nat) (i n : Nat), (downL f h i n).length = h.length
  | 0, h, i, n => rfl
  | f + 1, h, i, n => by
    unfold downL
    split
    · rfl
    · split
      · rw [downL_length f, swapL_length]
      · rfl
theorem upL_length : ∀ (f : Nat) (h : List Nat) (j : Nat), (upL f h j).length = h.length
  | 0, h, j => rfl
  | f + 1, h, j => by
    unfold upL
    split
    · rfl
    · split
      · rw [upL_length f, swapL_length]
      · rfl
theorem kidL_lt {h : List Nat} {i n : Nat} (hn : ¬ n ≤ 2 * i + 1) : kidL h i n < n ∧ i < kidL h i n ∧ (kidL h i n - 1) / 2 = i := by
  unfold kidL
  split <;> omega
theorem kidL_min {h : List Nat} {i n k : Nat} (hk0 : 0 < k) (hk : k < n) (hp : (k - 1) / 2 = i) : h.getD (kidL h i n) 0 ≤ h.getD k 0 := by
  have hc : k = 2 * i + 1 ∨ k = 2 * i + 2 := by omega
  unfold kidL
  rcases hc with rfl | rfl
  · split
    · omega
    · exact Nat.le_refl _
  · split
    · exact Nat.le_refl _
    · omega
theorem downL_perm : ∀ (f : Nat) (h : List Nat) (i n : Nat), n ≤ h.length → (downL f h i n).Perm h
  | 0, h, i, n, _ => List.Perm.refl _
  | f + 1, h, i, n, hn => by
    unfold downL
    split
    · exact List.Perm.refl _
    · rename_i h1
      have := kidL_lt (h := h) h1
      split
      · exact (downL_perm f _ _ n (by rw [swapL_length]; exact hn)).trans (swapL_perm h (by omega) (by omega))
      · exact List.Perm.refl _
theorem upL_perm : ∀ (f : Nat) (h : List Nat) (j : Nat), j < h.length → (upL f h j).Perm h
  | 0, h, j, _ => List.Perm.refl _
  | f + 1, h, j, hn => by
    unfold upL
    split
    · exact List.Perm.refl _
    · split
      · exact (upL_perm f _ _ (by rw [swapL_length]; omega)).trans (swapL_perm h (by omega) (by omega))
      · exact List.Perm.refl _
theorem downL_above : ∀ (f : Nat) (h : List Nat) (i n k : Nat), n ≤ h.length → n ≤ k → (downL f h i n).getD k 0 = h.getD k 0
  | 0, h, i, n, k, _, _ => rfl
  | f + 1, h, i, n, k, hn, hk => by
    unfold downL
    split
    · rfl
    · rename_i h1
      have := kidL_lt (h := h) h1
      split
      · rw [downL_above f _ _ n k (by rw [swapL_length]; exact hn) hk, swapL_get h (by omega) (by omega), if_neg (by omega), if_neg (by omega)]
      · rfl
theorem downL_heap : ∀ (f : Nat) (h : List Nat) (i n : Nat), n ≤ h.length → n - i ≤ f → (∀ k, 0 < k → k < n → (k - 1) / 2 ≠ i → h.getD ((k - 1) / 2) 0 ≤ h.getD k 0) →
    (∀ k, 0 < k → k < n → (k - 1) / 2 = i → 0 < i → h.getD ((i - 1) / 2) 0 ≤ h.getD k 0) → HeapN (downL f h i n) n
  | 0, h, i, n, hn, hf, h1, h2 => fun k hk hkn => h1 k hk hkn (by omega)
  | f + 1, h, i, n, hn, hf, h1, h2 => by
    unfold downL
    split
    · intro k hk hkn; exact h1 k hk hkn (by omega)
    · rename_i hni
      obtain ⟨q1, q2, q3⟩ := kidL_lt (h := h) hni
      generalize hj : kidL h i n = j at *
      have hmin : ∀ k, 0 < k → k < n → (k - 1) / 2 = i → h.getD j 0 ≤ h.getD k 0 := fun k a b c => by rw [← hj]; exact kidL_min a b c
      split
      · rename_i hlt
        refine downL_heap f _ j n (by rw [swapL_length]; exact hn) (by omega) (fun k hk hkn hp => ?_) (fun k hk hkn hp hj0 => ?_)
        · have hkl : k < h.length := by omega
          have hil : i < h.length := by omega
          have hjl : j < h.length := by omega
          rw [swapL_get h hil hjl, swapL_get h hil hjl]
          by_cases hpi : (k - 1) / 2 = i
          · rw [if_neg hp, if_pos hpi]
            by_cases hkj : k = j
            · rw [if_pos hkj]; omega
            · rw [if_neg hkj, if_neg (by omega)]
              exact hmin k hk hkn hpi
          · rw [if_neg hp, if_neg hpi, if_neg (by omega)]
            by_cases hki : k = i
            · rw [if_pos hki]
              subst hki
              exact h2 j (by omega) q1 q3 hk
            · rw [if_neg hki]
              exact h1 k hk hkn hpi
        · have hil : i < h.length := by omega
          have hjl : j < h.length := by omega
          rw [swapL_get h hil hjl, swapL_get h hil hjl, q3, if_neg (by omega), if_pos rfl, if_neg (by omega), if_neg (by omega)]
          have := h1 k hk hkn (by omega)
          rw [hp] at this
          exact this
      · rename_i hge
        intro k hk hkn
        by_cases hpi : (k - 1) / 2 = i
        · rw [hpi]
          have := hmin k hk hkn hpi
          omega
        · exact h1 k hk hkn hpi
theorem upL_heap : ∀ (f : Nat) (h : List Nat) (j : Nat), j < h.length → j ≤ f → (∀ k, 0 < k → k < h.length → k ≠ j → h.getD ((k - 1) / 2) 0 ≤ h.getD k 0) →
    (∀ k, 0 < k → k < h.length → (k - 1) / 2 = j → 0 < j → h.getD ((j - 1) / 2) 0 ≤ h.getD k 0) → HeapN (upL f h j) h.length
  | 0, h, j, hj, hf, h1, h2 => fun k hk hkn => h1 k hk hkn (by omega)
  | f + 1, h, j, hjl, hf, h1, h2 => by
    unfold upL
    split
    · intro k hk hkn; exact h1 k hk hkn (by omega)
    · rename_i hj0
      split
      · rename_i hlt
        have hil : (j - 1) / 2 < h.length := by omega
        have := upL_heap f (swapL h ((j - 1) / 2) j) ((j - 1) / 2) (by rw [swapL_length]; exact hil) (by omega) (fun k hk hkn hne => ?_) (fun k hk hkn hp hi0 => ?_)
        · rw [swapL_length] at this; exact this
        · rw [swapL_length] at hkn
          rw [swapL_get h hil hjl, swapL_get h hil hjl]
          by_cases hkj : k = j
          · subst hkj
            rw [if_neg (by omega), if_pos rfl, if_pos rfl]
            omega
          · rw [if_neg hkj, if_neg hne]
            by_cases hpj : (k - 1) / 2 = j
            · rw [if_pos hpj]
              exact h2 k hk hkn hpj (by omega)
            · rw [if_neg hpj]
              by_cases hpi : (k - 1) / 2 = (j - 1) / 2
              · rw [if_pos hpi]
                have := h1 k hk hkn hkj
                rw [hpi] at this
                omega
              · rw [if_neg hpi]
                exact h1 k hk hkn hkj
        · rw [swapL_length] at hkn
          rw [swapL_get h hil hjl, swapL_get h hil hjl, if_neg (by omega), if_neg (by omega)]
          have g1 := h1 ((j - 1) / 2) hi0 (by omega) (by omega)
          by_cases hkj : k = j
          · rw [if_pos hkj]; exact g1
          · rw [if_neg hkj, if_neg (by omega)]
            have g2 := h1 k hk hkn hkj
            rw [hp] at g2
            omega
      · rename_i hge
        intro k hk hkn
        by_cases hkj : k = j
        · subst hkj; omega
        · exact h1 k hk hkn hkj
theorem heap_min {h : List Nat} {n : Nat} (hh : HeapN h n) : ∀ k, k < n → h.getD 0 0 ≤ h.getD k 0 := by
  intro k
  induction k using Nat.strongRecOn with
  | _ k ih =>
    intro hk
    by_cases h0 : k = 0
    · subst h0; exact Nat.le_refl _
    · exact Nat.le_trans (ih ((k - 1) / 2) (by omega) (by omega)) (hh k (by omega) hk)
/-- What Pop leaves. -/
def popL (h : List Nat) : List Nat := (downL (h.length - 1) (swapL h 0 (h.length - 1)) 0 (h.length - 1)).take (h.length - 1)
theorem popL_length (h : List Nat) : (popL h).length = h.length - 1 := by
  unfold popL; rw [List.length_take, downL_length, swapL_length]; omega
theorem popL_last (h : List Nat) (h0 : 0 < h.length) : (downL (h.length - 1) (swapL h 0 (h.length - 1)) 0 (h.length - 1)).getD (h.length - 1) 0 = h.getD 0 0 := by
  rw [downL_above _ _ _ _ _ (by rw [swapL_length]; omega) (Nat.le_refl _), swapL_get h h0 (by omega), if_pos rfl]
theorem popL_perm (h : List Nat) (h0 : 0 < h.length) : (h.getD 0 0 :: popL h).Perm h := by
  have hp := (downL_perm (h.length - 1) (swapL h 0 (h.length - 1)) 0 (h.length - 1) (by rw [swapL_length]; omega)).trans (swapL_perm h h0 (by omega))
  have hl := popL_last h h0
  unfold popL
  have hlen : (downL (h.length - 1) (swapL h 0 (h.length - 1)) 0 (h.length - 1)).length = h.length := by rw [downL_length, swapL_length]
  generalize downL (h.length - 1) (swapL h 0 (h.length - 1)) 0 (h.length - 1) = d at *
  have e : d = d.take (h.length - 1) ++ [h.getD 0 0] := by
    conv => lhs; rw [← List.take_append_drop (h.length - 1) d]
    congr 1
    rw [List.drop_eq_getElem_cons (by omega), ← hl, getD_el (by omega), List.drop_of_length_le (by omega)]
  have e2 : (h.getD 0 0 :: d.take (h.length - 1)).Perm d := by
    conv => rhs; rw [e]
    exact (List.perm_append_singleton _ _).symm
  exact e2.trans hp
theorem take_getD (l : List Nat) {k n : Nat} (hk : k < n) : (l.take n).getD k 0 = l.getD k 0 := by
  rw [List.getD_eq_getElem?_getD, List.getD_eq_getElem?_getD, List.getElem?_take, if_pos hk]
theorem popL_heap (h : List Nat) (hh : HeapN h h.length) : HeapN (popL h) (popL h).length := by
  rw [popL_length]
  by_cases h0 : h.length = 0
  · intro k _ hk; omega
  · have hd := downL_heap (h.length - 1) (swapL h 0 (h.length - 1)) 0 (h.length - 1) (by rw [swapL_length]; omega) (by omega) (fun k hk hkn hp => by
      rw [swapL_get h (by omega) (by omega), swapL_get h (by omega) (by omega), if_neg (by omega), if_neg hp, if_neg (by omega), if_neg (by omega)]
      exact hh k hk (by omega)) (fun k _ _ _ h => by omega)
    intro k hk hkn
    unfold popL
    rw [take_getD _ (by omega), take_getD _ hkn]
    exact hd k hk hkn
/-- What Push leaves. -/
def pushL (h : List Nat) (x : Nat) : List Nat := upL h.length (h ++ [x]) h.length
theorem pushL_length (h : List Nat) (x : Nat) : (pushL h x).length = h.length + 1 := by
  unfold pushL; rw [upL_length]; simp
theorem pushL_perm (h : List Nat) (x : Nat) : (pushL h x).Perm (x :: h) := (upL_perm _ _ _ (by simp)).trans (List.perm_append_singleton _ _)
theorem pushL_heap (h : List Nat) (x : Nat) (hh : HeapN h h.length) : HeapN (pushL h x) (pushL h x).length := by
  rw [pushL_length]
  have hu := upL_heap h.length (h ++ [x]) h.length (by simp) (Nat.le_refl _) (fun k hk hkn hne => by
    rw [List.length_append, List.length_singleton] at hkn
    have e : ∀ i, i < h.length → (h ++ [x]).getD i 0 = h.getD i 0 := fun i hi => by
      rw [List.getD_eq_getElem?_getD, List.getD_eq_getElem?_getD, List.getElem?_append_left hi]
    rw [e _ (by omega), e _ (by omega)]
    exact hh k hk (by omega)) (fun k hk hkn hp _ => by
    rw [List.length_append, List.length_singleton] at hkn
    omega)
  rw [List.length_append, List.length_singleton] at hu
  exact hu
/-! Frames that are free, out of truths. -/
def fr (us : List Bool) : List Nat := (List.range us.length).filter fun i => !us.getD i true
theorem fr_mem {us : List Bool} {x : Nat} : x ∈ fr us ↔ us[x]? = some false := by
  unfold fr
  rw [List.mem_filter, List.mem_range, List.getD_eq_getElem?_getD]
  constructor
  · rintro ⟨h1, h2⟩
    rw [List.getElem?_eq_getElem h1] at h2 ⊢
    simpa using h2
  · intro h
    have hl : x < us.length := by
      rcases Nat.lt_or_ge x us.length with h1 | h1
      · exact h1
      · rw [List.getElem?_eq_none h1] at h; cases h
    exact ⟨hl, by rw [h]; rfl⟩
theorem fr_nodup (us : List Bool) : (fr us).Nodup := List.Pairwise.filter _ List.nodup_range
theorem fr_sorted (us : List Bool) : (fr us).Pairwise (· < ·) := List.Pairwise.filter _ List.pairwise_lt_range
theorem fr_length_le (us : List Bool) : (fr us).length ≤ us.length := by
  have := List.length_filter_le (fun i => !us.getD i true) (List.range us.length)
  rw [List.length_range] at this
  exact this
theorem fr_take (us : List Bool) (x : Nat) : fr (us.set x true) = (fr us).erase x := by
  rw [(fr_nodup us).erase_eq_filter]
  unfold fr
  rw [List.filter_filter, List.length_set]
  apply List.filter_congr
  intro i hi
  rw [List.mem_range] at hi
  by_cases h : i = x
  · subst h
    simp [List.getD_eq_getElem?_getD, List.getElem?_set, hi]
  · simp [List.getD_eq_getElem?_getD, List.getElem?_set, h, Ne.symm h]
theorem fr_give {us : List Bool} {x : Nat} (hx : us[x]? = some true) : (fr (us.set x false)).Perm (x :: fr us) := by
  have hl : x < us.length := by
    rcases Nat.lt_or_ge x us.length with h1 | h1
    · exact h1
    · rw [List.getElem?_eq_none h1] at hx; cases hx
  have e : us = (us.set x false).set x true := by
    rw [List.set_set]
    rw [List.getElem?_eq_getElem hl] at hx
    injection hx with hx
    rw [← hx, List.set_getElem_self]
  have h1 := fr_take (us.set x false) x
  rw [← e] at h1
  rw [h1]
  exact List.perm_cons_erase (fr_mem.2 (by rw [List.getElem?_set]; simp [hl]))
/-- The least of a heap of the free frames is the first of them. -/
theorem heap_head {us : List Bool} {h : List Nat} (hp : h.Perm (fr us)) (hh : HeapN h h.length) {x : Nat} {r : List Nat} (hf : fr us = x :: r) : h.getD 0 0 = x := by
  have h0 : 0 < h.length := by rw [hp.length_eq, hf]; simp
  have h1 : h.getD 0 0 ∈ fr us := by
    rw [getD_el h0]
    exact hp.mem_iff.1 (List.getElem_mem h0)
  have h2 : x ∈ h := hp.mem_iff.2 (by rw [hf]; simp)
  obtain ⟨k, hk, e⟩ := List.getElem_of_mem h2
  have h3 := heap_min hh k hk
  rw [getD_el hk, e] at h3
  have hs := fr_sorted us
  rw [hf] at hs h1
  rcases List.mem_cons.1 h1 with e | h4
  · exact e
  · have := (List.pairwise_cons.1 hs).1 _ h4
    omega
theorem pop_free {us : List Bool} {h : List Nat} (hp : h.Perm (fr us)) (h0 : 0 < h.length) : (popL h).Perm (fr (us.set (h.getD 0 0) true)) := by
  rw [fr_take]
  have h1 := (popL_perm h h0).trans hp
  exact (List.cons_perm_iff_perm_erase.1 h1).2
theorem push_free {us : List Bool} {h : List Nat} {x : Nat} (hp : h.Perm (fr us)) (hx : us[x]? = some true) : (pushL h x).Perm (fr (us.set x false)) :=
  (pushL_perm h x).trans ((hp.cons x).trans (fr_give hx).symm)
def encI (n : Nat) : Value := .int .i64 (n : Int)
theorem encI_one : ∀ x : Nat, (encI x).oneCell' = true := fun _ => rfl
/-- A pool's state: its heap's row vf, its row of truths vu, and how many takes go well yet. -/
structure Pv (B p : Nat) (vf vu : Value) (h : List Nat) (us : List Bool) (left : Int) (w : World) : Prop where
  c : Blk w p [vf, vu, .int .i64 left] 48
  rf : w.ownsRow B 3 1 vf h.length (h.map encI)
  ru : w.ownsRow B 4 1 vu us.length (us.map Value.bool)
  nf : vf.ownBlock ≠ some p
  nu : vu.ownBlock ≠ some p
  nn : ∀ g, vf.ownBlock = some g → vu.ownBlock ≠ some g
theorem Pv.keep {S : Nat → Prop} {B p : Nat} {vf vu : Value} {h : List Nat} {us : List Bool} {left : Int} {w w' : World} (s : Pv B p vf vu h us left w) (k : Keep S w w') (hp : ¬ S p) (hf : ∀ g, vf.ownBlock = some g → ¬ S g) (hu : ∀ g, vu.ownBlock = some g → ¬ S g) : Pv B p vf vu h us left w' :=
  ⟨s.c.keep k hp, sl_keep s.rf k hf, sl_keep s.ru k hu, s.nf, s.nu, s.nn⟩
theorem Pv.below {B p : Nat} {vf vu : Value} {h : List Nat} {us : List Bool} {left : Int} {w w' : World} (s : Pv B p vf vu h us left w) (hb : Below w.heap.size w w') : Pv B p vf vu h us left w' :=
  s.keep (S := fun _ => False) (Keep.of_below hb) (fun h => h) (fun _ _ h => h) (fun _ _ h => h)
theorem Pv.drewN {B p : Nat} {vf vu : Value} {h : List Nat} {us : List Bool} {left : Int} {w : World} (s : Pv B p vf vu h us left w) (q : Nat) : Pv B p vf vu h us left (w.drewN q) := s.below (below_drewN (Below.refl _ w) q)
/-- The heap's row, laid open. -/
theorem Pv.row {B p : Nat} {vf vu : Value} {h : List Nat} {us : List Bool} {left : Int} {w : World} (s : Pv B p vf vu h us left w) (h0 : 0 < h.length) :
    ∃ g cap sp, vf = .slice (some ⟨g, 0, none⟩) h.length cap ∧ B ≤ g ∧ h.length ≤ cap ∧ cap ≤ maxLen ∧ Blk w g (h.map encI ++ sp) 3 ∧ g ≠ p := by
  obtain ⟨g, cap, sp, hv, a, b, c, d⟩ := sl_form s.rf h0
  exact ⟨g, cap, sp, hv, a, b, c, d, fun e => s.nf (by rw [hv, e]; rfl)⟩
theorem cellI {w : World} {g i : Nat} {h : List Nat} {sp : List Value} {t : TypeId} (hb : Blk w g (h.map encI ++ sp) t) (hi : i < h.length) : w.cell? ⟨g, i, none⟩ = some (.int .i64 ((h.getD i 0 : Nat) : Int)) := by
  refine hb.cellAt ?_
  rw [List.getElem?_append_left (by simpa using hi), List.getElem?_map, getD_some hi]
  rfl
/-- One cell of a row that the call owns. -/
theorem owns_set {w : World} {base n cap g : Nat} {e : TypeId} {xs : List Value} (h : w.ownsRow base e 1 (.slice (some ⟨g, 0, none⟩) n cap) n xs) {i : Nat} (hi : i < n) (v : Value) : (w.setCell ⟨g, i, none⟩ v).ownsRow base e 1 (.slice (some ⟨g, 0, none⟩) n cap) n (xs.set i v) := by
  obtain ⟨h1, h2⟩ := h
  refine ⟨by simpa using h1, .inr ?_⟩
  rcases h2 with ⟨hv, _⟩ | ⟨g', cap', cur, hv, hb, hg, hc, hm, hs, ht⟩
  · cases hv
  · injection hv with hv1 _ hv3
    injection hv1 with hv1
    injection hv1 with hv1
    subst hv1; subst hv3
    have hk : Blk w g cur.toList e := by unfold Blk; simpa using hg
    have hk2 := hk.set i v
    refine ⟨g, cap, (cur.toList.set i v).toArray, rfl, hb, by unfold Blk at hk2; exact hk2, hc, hm, by simpa using hs, ?_⟩
    rw [Nat.mul_one] at ht ⊢
    show ((cur.toList.set i v).toArray.toList).take n = _
    rw [List.toList_toArray, List.take_set, ht]
theorem map_set_enc (h : List Nat) (i x : Nat) : (h.set i x).map encI = (h.map encI).set i (.int .i64 (x : Int)) := by rw [List.map_set]; rfl
/-- Two cells of the heap change places. -/
theorem Pv.swap {B p g cap : Nat} {vu : Value} {h : List Nat} {us : List Bool} {left : Int} {w : World} {i j : Nat} (s : Pv B p (.slice (some ⟨g, 0, none⟩) h.length cap) vu h us left w) (hi : i < h.length) (hj : j < h.length) :
    Pv B p (.slice (some ⟨g, 0, none⟩) h.length cap) vu (swapL h i j) us left ((w.setCell ⟨g, i, none⟩ (.int .i64 ((h.getD j 0 : Nat) : Int))).setCell ⟨g, j, none⟩ (.int .i64 ((h.getD i 0 : Nat) : Int))) := by
  have k : Keep (fun i => i = g) w ((w.setCell ⟨g, i, none⟩ (.int .i64 ((h.getD j 0 : Nat) : Int))).setCell ⟨g, j, none⟩ (.int .i64 ((h.getD i 0 : Nat) : Int))) :=
    Keep.setCell (S := fun i => i = g) (Keep.setCell (S := fun i => i = g) (Keep.refl _ w) (p := ⟨g, i, none⟩) (fun _ => rfl) _) (p := ⟨g, j, none⟩) (fun _ => rfl) _
  have hg : g ≠ p := fun e => s.nf (by rw [e]; rfl)
  have r := owns_set (owns_set s.rf hi (.int .i64 ((h.getD j 0 : Nat) : Int))) hj (.int .i64 ((h.getD i 0 : Nat) : Int))
  rw [← map_set_enc, ← map_set_enc] at r
  refine ⟨s.c.keep k (Ne.symm hg), ?_, sl_keep s.ru k (fun g' e e2 => s.nn g rfl (by rw [e, e2])), s.nf, s.nu, s.nn⟩
  rw [swapL_length]
  exact r
theorem reach_less {w : World} {p : Nat} {v : Value} (hc : w.cell? ⟨p, 0, none⟩ = some v) : (method 177 50 (.pointer (some ⟨p, 0, none⟩)) "Less").run Try.prog w = .ok (39, v) w := by
  have h : (method 177 50 (.pointer (some ⟨p, 0, none⟩)) "Less").run Try.prog w = (do let x ← loadVar 46 ⟨p, 0, none⟩; pure (39, x)).run Try.prog w := by kernel_rfl
  rw [h]
  simp [go_sem, loadVar, hc]
theorem reach_swap {w : World} {p : Nat} {v : Value} (hc : w.cell? ⟨p, 0, none⟩ = some v) : (method 177 50 (.pointer (some ⟨p, 0, none⟩)) "Swap").run Try.prog w = .ok (40, v) w := by
  have h : (method 177 50 (.pointer (some ⟨p, 0, none⟩)) "Swap").run Try.prog w = (do let x ← loadVar 46 ⟨p, 0, none⟩; pure (40, x)).run Try.prog w := by kernel_rfl
  rw [h]
  simp [go_sem, loadVar, hc]
theorem reach_len {w : World} {p : Nat} {v : Value} (hc : w.cell? ⟨p, 0, none⟩ = some v) : (method 177 50 (.pointer (some ⟨p, 0, none⟩)) "Len").run Try.prog w = .ok (38, v) w := by
  have h : (method 177 50 (.pointer (some ⟨p, 0, none⟩)) "Len").run Try.prog w = (do let x ← loadVar 46 ⟨p, 0, none⟩; pure (38, x)).run Try.prog w := by kernel_rfl
  rw [h]
  simp [go_sem, loadVar, hc]
theorem reach_pop (w : World) (p : Nat) : (method 177 50 (.pointer (some ⟨p, 0, none⟩)) "Pop").run Try.prog w = .ok (41, .pointer (some ⟨p, 0, none⟩)) w := by kernel_rfl
theorem reach_push (w : World) (p : Nat) : (method 177 50 (.pointer (some ⟨p, 0, none⟩)) "Push").run Try.prog w = .ok (42, .pointer (some ⟨p, 0, none⟩)) w := by kernel_rfl
theorem enter_less : ∀ args w, (callFunc 39 args).run Try.prog w = .ok (.enter 39 args) w := enters_of Try.func39 (by kernel_rfl) rfl
theorem enter_swap : ∀ args w, (callFunc 40 args).run Try.prog w = .ok (.enter 40 args) w := enters_of Try.func40 (by kernel_rfl) rfl
theorem enter_len : ∀ args w, (callFunc 38 args).run Try.prog w = .ok (.enter 38 args) w := enters_of Try.func38 (by kernel_rfl) rfl
theorem enter_pop : ∀ args w, (callFunc 41 args).run Try.prog w = .ok (.enter 41 args) w := enters_of Try.func41 (by kernel_rfl) rfl
theorem enter_push : ∀ args w, (callFunc 42 args).run Try.prog w = .ok (.enter 42 args) w := enters_of Try.func42 (by kernel_rfl) rfl
set_option maxHeartbeats 2000000 in
theorem less_calls {w : World} {g n cap i j x y : Nat} (hi : i < n) (hj : j < n) (hn : n ≤ 1024) (ci : w.cell? ⟨g, i, none⟩ = some (.int .i64 (x : Int))) (cj : w.cell? ⟨g, j, none⟩ = some (.int .i64 (y : Int))) :
    Calls Try.prog 39 #[.slice (some ⟨g, 0, none⟩) n cap, .int .i64 (i : Int), .int .i64 (j : Int)] w fun e w' => e = .returned (.bool (decide (x < y))) ∧ ∃ q, w' = w.drewN q := by
  have HD : Hid (decide (x < y) = decide ((x : Int) < (y : Int))) := by show _ = _; simp
  generalize decide (x < y) = r at *
  go_enter Try.func39, Try.ntmps39
  go_wp2
  go_quiet (fail)
  go_wp2
  go_ret
  exact ⟨by rw [HD.out]; simp, nq, rfl⟩
set_option maxHeartbeats 2000000 in
theorem swap_calls {w : World} {g n cap i j x y : Nat} (hi : i < n) (hj : j < n) (hn : n ≤ 1024) (ci : w.cell? ⟨g, i, none⟩ = some (.int .i64 (x : Int))) (cj : w.cell? ⟨g, j, none⟩ = some (.int .i64 (y : Int)))
    (fi : w.frozen? ⟨g, i, none⟩ = false) (fj : w.frozen? ⟨g, j, none⟩ = false) :
    Calls Try.prog 40 #[.slice (some ⟨g, 0, none⟩) n cap, .int .i64 (i : Int), .int .i64 (j : Int)] w fun e w' =>
      e = .returned (.tuple #[]) ∧ ∃ q, w' = ((w.setCell ⟨g, i, none⟩ (.int .i64 (y : Int))).setCell ⟨g, j, none⟩ (.int .i64 (x : Int))).drewN q := by
  obtain ⟨v', hy'⟩ := cell?_setCell_some (w := w) (p := ⟨g, i, none⟩) (x := .int .i64 (y : Int)) (q := ⟨g, j, none⟩) cj
  go_enter Try.func40, Try.ntmps40
  go_wp2
  go_region
  all_goals (try go_wp2)
  all_goals go_end0
  all_goals exact ⟨rfl, 1, rfl⟩
theorem len_calls {w : World} {a : Option Addr} {n cap : Nat} (hn : n ≤ 1024) :
    Calls Try.prog 38 #[.slice a n cap] w fun e w' => e = .returned (.int .i64 (n : Int)) ∧ w' = w := by
  go_enter Try.func38, Try.ntmps38
  go_wp2
  go_ret
  exact ⟨rfl, rfl⟩
def IsBool (e : Ending) : Prop := ∃ b, e = .returned (.bool b)
def DownP (w : World) (B p : Nat) (vf vu : Value) (us : List Bool) (left : Int) (res : List Nat) (e : Ending) (w' : World) : Prop := IsBool e ∧ Pv B p vf vu res us left w' ∧ Keep (fun i => vf.ownBlock = some i) w w'
theorem down_stop {f : Nat} {h1 res : List Nat} {i n : Nat} (hd : downL f h1 i n = res) (hs : n ≤ 2 * i + 1 ∨ ¬ h1.getD (kidL h1 i n) 0 < h1.getD i 0) : h1 = res := by
  cases f with
  | zero => exact hd
  | succ f =>
    rw [← hd]
    unfold downL
    rcases hs with h | h
    · rw [if_pos h]
    · rw [if_neg h]; split <;> rfl
theorem down_go {f : Nat} {h1 res : List Nat} {i n : Nat} (hd : downL f h1 i n = res) (hf : n - i ≤ f) (h0 : ¬ n ≤ 2 * i + 1) (hs : h1.getD (kidL h1 i n) 0 < h1.getD i 0) : ∃ f', downL f' (swapL h1 i (kidL h1 i n)) (kidL h1 i n) n = res ∧ n - kidL h1 i n ≤ f' := by
  have := kidL_lt (h := h1) h0
  cases f with
  | zero => omega
  | succ f =>
    refine ⟨f, ?_, by omega⟩
    rw [← hd]
    conv => rhs; unfold downL
    rw [if_neg h0, if_pos hs]
/-- The relation of the loop, behind a swap. -/
theorem down_rel {B p g cap : Nat} {vu : Value} {h h1 res : List Nat} {us : List Bool} {left : Int} {w wr w2 : World} {i n f j q q2 : Nat} {jv : Int} (hl : h1.length = h.length) (s1 : Pv B p (.slice (some ⟨g, 0, none⟩) h1.length cap) vu h1 us left wr)
    (k1 : Keep (fun i => (Value.slice (some ⟨g, 0, none⟩) h1.length cap).ownBlock = some i) w wr) (hd : downL f h1 i n = res) (hf : n - i ≤ f) (h0 : ¬ n ≤ 2 * i + 1) (hn : n ≤ h.length) (h5 : h.length ≤ 1000) (hj : kidL h1 i n = j) (hjv : jv = (j : Int)) (hs : h1.getD j 0 < h1.getD i 0)
    (hw : w2 = (((wr.drewN q).setCell ⟨g, i, none⟩ (.int .i64 ((h1.getD j 0 : Nat) : Int))).setCell ⟨g, j, none⟩ (.int .i64 ((h1.getD i 0 : Nat) : Int))).drewN q2) :
    ∃ (i' f' : Nat) (h2 : List Nat), Value.int .i64 jv = .int .i64 (i' : Int) ∧ i' ≤ 1000 ∧ h2.length = h.length ∧ Pv B p (.slice (some ⟨g, 0, none⟩) h1.length cap) vu h2 us left w2 ∧
      Keep (fun i => (Value.slice (some ⟨g, 0, none⟩) h1.length cap).ownBlock = some i) w w2 ∧ downL f' h2 i' n = res ∧ n - i' ≤ f' := by
  obtain ⟨a1, a2, a3⟩ := kidL_lt (h := h1) h0
  rw [← hj] at hs
  obtain ⟨f', d1, d2⟩ := down_go hd hf h0 hs
  rw [hj] at d1 d2 a1 a2
  subst hw
  refine ⟨j, f', _, by rw [hjv], by omega, (swapL_length _ _ _).trans hl, ((s1.drewN q).swap (by omega) (by omega)).drewN q2, ?_, d1, d2⟩
  have k2 : Keep (fun i => (Value.slice (some ⟨g, 0, none⟩) h1.length cap).ownBlock = some i) wr (wr.drewN q) := Keep.of_below (below_drewN (Below.refl _ wr) q)
  have k3 := (Keep.setCell (S := fun i => (Value.slice (some ⟨g, 0, none⟩) h1.length cap).ownBlock = some i) (Keep.setCell (S := fun i => (Value.slice (some ⟨g, 0, none⟩) h1.length cap).ownBlock = some i) (Keep.refl _ (wr.drewN q)) (p := ⟨g, i, none⟩) (fun _ => rfl) (.int .i64 ((h1.getD j 0 : Nat) : Int))) (p := ⟨g, j, none⟩) (fun _ => rfl) (.int .i64 ((h1.getD i 0 : Nat) : Int)))
  exact ((k1.trans k2).trans k3).trans (Keep.of_below (below_drewN (Below.refl _ _) q2))
set_option maxHeartbeats 4000000 in
theorem down_calls {B p : Nat} {vf vu : Value} {h : List Nat} {us : List Bool} {left : Int} {w : World} (s : Pv B p vf vu h us left w) (i0 n : Nat) (hn : n ≤ h.length) (h5 : h.length ≤ 1000) (hi0 : i0 ≤ 1000) :
    Calls Try.prog 20 #[.iface 50 (.pointer (some ⟨p, 0, none⟩)), .int .i64 (i0 : Int), .int .i64 (n : Int)] w (DownP w B p vf vu us left (downL n h i0 n)) := by
  have HN := Lib.hid hn
  have H5 := Lib.hid h5
  have EL := enter_less; have ES := enter_swap
  have hni : (n : Int) ≤ 1000 := by omega
  have D0 := Lib.hid (show ∃ f h1, h1.length = h.length ∧ Pv B p vf vu h1 us left w ∧ Keep (fun i => vf.ownBlock = some i) w w ∧ downL f h1 i0 n = downL n h i0 n ∧ n - i0 ≤ f from ⟨n, h, rfl, s, Keep.refl _ w, rfl, by omega⟩)
  generalize downL n h i0 n = res at *
  clear s hn h5
  go_enter Try.func20, Try.ntmps20
  go_upto_region 2 with (fail)
  go_loopw [7] (fun vi wr => ∃ (i f : Nat) (h1 : List Nat), vi = .int .i64 i ∧ i ≤ 1000 ∧ h1.length = h.length ∧ Pv B p vf vu h1 us left wr ∧ Keep (fun i => vf.ownBlock = some i) w wr ∧ downL f h1 i n = res ∧ n - i ≤ f) (fun vi _ => n - (intOf vi).toNat)
  case atStart =>
    obtain ⟨f, h1, a, b, c, d, e⟩ := D0.out
    exact ⟨i0, f, h1, rfl, hi0, a, b, c, d, e⟩
  case round =>
    clear D0
    obtain ⟨i, f, h1, rfl, hi, hl, s1, k1, hd, hf⟩ := hrel
    have S1 := Lib.hid s1
    have K1 := Lib.hid k1
    have HD := Lib.hid hd
    have HL := Lib.hid hl
    have HF := Lib.hid hf
    clear s1 k1 hd hl hf
    by_cases hlt : n ≤ 2 * i + 1
    · have hge : ¬ (2 * (i : Int) + 1 < (n : Int)) := by omega
      have hge2 : (n : Int) ≤ 2 * (i : Int) + 1 := by omega
      go_wp2
      go_ret
      exact ⟨⟨_, rfl⟩, by rw [← down_stop HD.out (.inl hlt)]; exact S1.out, K1.out⟩
    · have hl1 : h1.length = h.length := HL.out
      have hn1 := HN.out
      have hn2 := H5.out
      obtain ⟨g, cap, sp, rfl, hg, hc1, hc2, hb, hgp⟩ := S1.out.row (by omega)
      have cp : wr.cell? ⟨p, 0, none⟩ = some (.slice (some ⟨g, 0, none⟩) h1.length cap) := S1.out.c.cellAt (i := 0) rfl
      have cpq : ∀ q, (wr.drewN q).cell? ⟨p, 0, none⟩ = some (.slice (some ⟨g, 0, none⟩) h1.length cap) := fun q => (S1.out.drewN q).c.cellAt (i := 0) rfl
      have mL := reach_less cp
      have mLq := fun q => reach_less (cpq q)
      have mSq := fun q => reach_swap (cpq q)
      have ci := fun q => cellI (hb.drewN q) (i := i) (by omega)
      have c1 := fun q => cellI (hb.drewN q) (i := 2 * i + 1) (by omega)
      have fr := fun q k => (hb.drewN q).unfrozen k
      have t1 : (((2 * i + 1 : Nat)) : Int) = 2 * (i : Int) + 1 := by omega
      have hl0 : 2 * (i : Int) + 1 < (n : Int) := by omega
      have HH : Hid (¬ n ≤ 2 * i + 1) := hlt
      by_cases h2 : 2 * i + 2 < n
      · have hl2 : 2 * (i : Int) + 1 + 1 < (n : Int) := by omega
        have t2 : (((2 * i + 2 : Nat)) : Int) = 2 * (i : Int) + 1 + 1 := by omega
        have c2 := fun q => cellI (hb.drewN q) (i := 2 * i + 2) (by omega)
        have la := less_calls (w := wr) (cap := cap) (i := 2 * i + 2) (j := 2 * i + 1) (n := h1.length) (by omega) (by omega) (by omega) (cellI hb (by omega)) (cellI hb (by omega))
        rw [t2, t1] at la
        by_cases hk : h1.getD (2 * i + 2) 0 < h1.getD (2 * i + 1) 0
        · have lb := fun q => less_calls (w := wr.drewN q) (cap := cap) (i := 2 * i + 2) (j := i) (n := h1.length) (by omega) (by omega) (by omega) (c2 q) (ci q)
          have sb := fun q => swap_calls (w := wr.drewN q) (cap := cap) (i := i) (j := 2 * i + 2) (n := h1.length) (by omega) (by omega) (by omega) (ci q) (c2 q) (fr q _) (fr q _)
          rw [t2] at lb sb
          rw [decide_eq_true hk] at la
          clear ci c1 c2 fr cp cpq hb hl1 hn1 hn2
          go_upto_region 8 with (go_at_fn 39; refine la.mono ?_; rintro e w2 ⟨rfl, q0, rfl⟩)
          clear la mL
          have KJ := Lib.hid (show kidL h1 i n = 2 * i + 2 by unfold kidL; rw [if_pos ⟨h2, hk⟩])
          by_cases hx : h1.getD (2 * i + 2) 0 < h1.getD i 0
          · rw [decide_eq_true hx] at lb
            go_wp2_with (first | (go_at_fn 39; refine (lb _).mono ?_; rintro e w2 ⟨rfl, q, rfl⟩) | (go_at_fn 40; refine (sb _).mono ?_; rintro e w2 ⟨rfl, q, rfl⟩))
            all_goals (exact ⟨down_rel HL.out S1.out K1.out HD.out HF.out HH.out HN.out H5.out KJ.out t2.symm hx (by rfl), by simp only [intOf]; omega⟩)
          · rw [decide_eq_false hx] at lb
            go_wp2_with (first | (go_at_fn 39; refine (lb _).mono ?_; rintro e w2 ⟨rfl, q, rfl⟩))
            go_ret
            exact ⟨⟨_, rfl⟩, by rw [← down_stop HD.out (.inr (by rw [KJ.out]; exact hx))]; exact (S1.out.drewN _), K1.out.trans (Keep.of_below (below_drewN (Below.refl _ wr) _))⟩
        · have lb := fun q => less_calls (w := wr.drewN q) (cap := cap) (i := 2 * i + 1) (j := i) (n := h1.length) (by omega) (by omega) (by omega) (c1 q) (ci q)
          have sb := fun q => swap_calls (w := wr.drewN q) (cap := cap) (i := i) (j := 2 * i + 1) (n := h1.length) (by omega) (by omega) (by omega) (ci q) (c1 q) (fr q _) (fr q _)
          rw [t1] at lb sb
          rw [decide_eq_false hk] at la
          clear ci c1 c2 fr cp cpq hb hl1 hn1 hn2
          go_upto_region 8 with (go_at_fn 39; refine la.mono ?_; rintro e w2 ⟨rfl, q0, rfl⟩)
          clear la mL
          have KJ := Lib.hid (show kidL h1 i n = 2 * i + 1 by unfold kidL; rw [if_neg (fun h => hk h.2)])
          by_cases hx : h1.getD (2 * i + 1) 0 < h1.getD i 0
          · rw [decide_eq_true hx] at lb
            go_wp2_with (first | (go_at_fn 39; refine (lb _).mono ?_; rintro e w2 ⟨rfl, q, rfl⟩) | (go_at_fn 40; refine (sb _).mono ?_; rintro e w2 ⟨rfl, q, rfl⟩))
            all_goals (exact ⟨down_rel HL.out S1.out K1.out HD.out HF.out HH.out HN.out H5.out KJ.out t1.symm hx (by rfl), by simp only [intOf]; omega⟩)
          · rw [decide_eq_false hx] at lb
            go_wp2_with (first | (go_at_fn 39; refine (lb _).mono ?_; rintro e w2 ⟨rfl, q, rfl⟩))
            go_ret
            exact ⟨⟨_, rfl⟩, by rw [← down_stop HD.out (.inr (by rw [KJ.out]; exact hx))]; exact (S1.out.drewN _), K1.out.trans (Keep.of_below (below_drewN (Below.refl _ wr) _))⟩
      · have hl2 : ¬ (2 * (i : Int) + 1 + 1 < (n : Int)) := by omega
        have hl3 : (n : Int) ≤ 2 * (i : Int) + 1 + 1 := by omega
        have lb := less_calls (w := wr) (cap := cap) (i := 2 * i + 1) (j := i) (n := h1.length) (by omega) (by omega) (by omega) (cellI hb (by omega)) (cellI hb (by omega))
        have sb := fun q => swap_calls (w := wr.drewN q) (cap := cap) (i := i) (j := 2 * i + 1) (n := h1.length) (by omega) (by omega) (by omega) (ci q) (c1 q) (fr q _) (fr q _)
        rw [t1] at lb sb
        clear ci c1 fr cp cpq hb hl1 hn1 hn2
        have KJ := Lib.hid (show kidL h1 i n = 2 * i + 1 by unfold kidL; rw [if_neg (fun h => h2 h.1)])
        by_cases hx : h1.getD (2 * i + 1) 0 < h1.getD i 0
        · rw [decide_eq_true hx] at lb
          go_wp2_with (first | (go_at_fn 39; refine lb.mono ?_; rintro e w2 ⟨rfl, q, rfl⟩) | (go_at_fn 40; refine (sb _).mono ?_; rintro e w2 ⟨rfl, q, rfl⟩))
          all_goals (exact ⟨down_rel HL.out S1.out K1.out HD.out HF.out HH.out HN.out H5.out KJ.out t1.symm hx (by rfl), by simp only [intOf]; omega⟩)
        · rw [decide_eq_false hx] at lb
          go_wp2_with (first | (go_at_fn 39; refine lb.mono ?_; rintro e w2 ⟨rfl, q, rfl⟩))
          go_ret
          exact ⟨⟨_, rfl⟩, by rw [← down_stop HD.out (.inr (by rw [KJ.out]; exact hx))]; exact (S1.out.drewN _), K1.out.trans (Keep.of_below (below_drewN (Below.refl _ wr) _))⟩
end Go.Proofs.Ytigeadiclajkjaa.Walks
