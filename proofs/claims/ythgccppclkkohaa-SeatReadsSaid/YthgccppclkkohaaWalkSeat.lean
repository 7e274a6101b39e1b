/- Walks through the functions of the statement, and the statement over them: each contract says what the call answers and that nothing else changes. -/
import Derived.Test.YthgccppclkkohaaProg
import Derived.Test.YthgccppclkkohaaBits
import Derived.Test.YthgccppclkkohaaHeap
import Derived.Test.YthgccppclkkohaaAid
import Derived.Lib.Hide
import Derived.Test.YthgccppclkkohaaArr
import Derived.Test.YthgccppclkkohaaEql
import Derived.WalkKit
import Derived.WalkSpells
import Derived.WalkLawsBesides
import Derived.Deep.QuietTactic
import Derived.BigQuiet
import Derived.Deep.RegionHeld3
import Derived.Deep.DeepCutAuto
import Derived.Deep.CutBlock
import Derived.Lib.SlBytesConst
import Derived.StillTailTactics
import Derived.Laws.MakeOwn
import Derived.Deep.AppendLies
import Derived.RegionTactic
import Derived.Deep.RegionLaw
namespace Go.Proofs.Ythgccppclkkohaa.Walks
set_option linter.unusedVariables false
set_option linter.unusedSimpArgs false
open Go.RowKit Go.Proofs.Ythgccppclkkohaa.Bits Go.Proofs.Ythgccppclkkohaa.Heap Go.Proofs.Ythgccppclkkohaa.Aid Go.Proofs.Ythgccppclkkohaa.Arr Go.Proofs.Ythgccppclkkohaa.Eql

theorem ret_int {k : IntKind} {a b : Int} (h : a = b) : Ending.returned (.int k a) = .returned (.int k b) := by rw [h]
theorem ret_bool {a b : Bool} (h : a = b) : Ending.returned (.bool a) = .returned (.bool b) := by rw [h]
/-- The block that holds the instruction, in any later world. -/
structure Inv (w : World) (cs : List Value) (t : TypeId) (w' : World) : Prop where
  b : Below w.heap.size w w'
  k : Blk w' w.heap.size cs t
  z : w.heap.size < w'.heap.size
theorem Inv.step {w w1 w2 : World} {cs : List Value} {t : TypeId} (h : Inv w cs t w1) (hb : Below w1.heap.size w1 w2) : Inv w cs t w2 :=
  ⟨h.b.trans (hb.mono h.b.size), h.k.below hb h.z, Nat.lt_of_lt_of_le h.z hb.size⟩
theorem Inv.drewN {w w1 : World} {cs : List Value} {t : TypeId} (h : Inv w cs t w1) (m : Nat) : Inv w cs t (w1.drewN m) :=
  ⟨below_drewN h.b m, h.k.drewN m, h.z⟩
theorem Inv.new (w : World) (A : Array Value) (t : TypeId) : Inv w A.toList t (w.alloc (.cells A t)) :=
  ⟨(Below.refl _ _).alloc (Nat.le_refl _) _, Blk.new w _ _, by simp⟩
theorem Inv.set {w w1 : World} {cs : List Value} {t : TypeId} (h : Inv w cs t w1) (k : Nat) (v : Value) : Inv w (cs.set k v) t (w1.setCell ⟨w.heap.size, k, none⟩ v) :=
  ⟨h.b.setCell (Nat.le_refl _) v, h.k.set k v, by have := h.z; simpa [World.setCell] using this⟩
theorem Inv.setAll {w w1 : World} {cs : List Value} {t : TypeId} (h : Inv w cs t w1) (vs : List Value) (hl : vs.length = cs.length) : Inv w vs t (w1.setCells w.heap.size 0 vs) :=
  ⟨below_setCells h.b (Nat.le_refl _) 0 vs, blk_setAll h.k hl, by have := h.z; rw [size_setCells]; exact this⟩
/-- A call that writes block b alone (of those that were), which then holds these cells. -/
structure Upd (b : Nat) (cs : List Value) (t : TypeId) (w w' : World) : Prop where
  k : Keep (fun i => i = b) w w'
  c : Blk w' b cs t
theorem Upd.same {b : Nat} {cs : List Value} {t : TypeId} {w : World} (h : Blk w b cs t) : Upd b cs t w w := ⟨Keep.refl _ _, h⟩
theorem Upd.drewN {b : Nat} {cs : List Value} {t : TypeId} {w w' : World} (h : Upd b cs t w w') (n : Nat) : Upd b cs t w (w'.drewN n) := ⟨h.k.drewN n, h.c.drewN n⟩
theorem Upd.set {b : Nat} {cs : List Value} {t : TypeId} {w w' : World} (h : Upd b cs t w w') (i : Nat) (v : Value) : Upd b (cs.set i v) t w (w'.setCell ⟨b, i, none⟩ v) :=
  ⟨h.k.setCell (fun _ => rfl) v, h.c.set i v⟩
theorem Upd.setAll {b : Nat} {cs : List Value} {t : TypeId} {w w' : World} (h : Upd b cs t w w') (vs : List Value) (hl : vs.length = cs.length) : Upd b vs t w (w'.setCells b 0 vs) :=
  ⟨keep_setCells h.k (fun _ => rfl) 0 vs, blk_setAll h.c hl⟩
theorem Upd.trans {b : Nat} {cs cs' : List Value} {t t' : TypeId} {w w' w'' : World} (h : Upd b cs t w w') (k : Upd b cs' t' w' w'') : Upd b cs' t' w w'' := ⟨h.k.trans k.k, k.c⟩
theorem Upd.step {b : Nat} {cs : List Value} {t : TypeId} {w w' w'' : World} (h : Upd b cs t w w') (k : Below w'.heap.size w' w'') : Upd b cs t w w'' :=
  ⟨h.k.step (S' := fun _ => False) (Keep.of_below k) (fun _ _ h => h.elim), h.c.below k h.c.lt⟩
theorem Upd.below {b : Nat} {cs : List Value} {t : TypeId} {w0 w w' : World} (h : Upd b cs t w w') (h0 : Below w0.heap.size w0 w) (hb : w0.heap.size ≤ b) : Below w0.heap.size w0 w' :=
  Keep.belowB h0 h.k h0.size (fun i hi e => by omega)
theorem Upd.blk {b b' : Nat} {cs cs' : List Value} {t t' : TypeId} {w w' : World} (h : Upd b cs t w w') (k : Blk w b' cs' t') (hb : b' ≠ b) : Blk w' b' cs' t' := k.keep h.k hb
theorem Inv.upd {w w1 w2 : World} {cs cs' : List Value} {t t' : TypeId} (h : Inv w cs t w1) (u : Upd w.heap.size cs' t' w1 w2) : Inv w cs' t' w2 :=
  ⟨u.below h.b (Nat.le_refl _), u.c, Nat.lt_of_lt_of_le h.z u.k.size⟩
theorem Inv.other {w w1 w2 : World} {cs cs' : List Value} {t t' : TypeId} {b : Nat} (h : Inv w cs t w1) (u : Upd b cs' t' w1 w2) (hb : w.heap.size < b) : Inv w cs t w2 :=
  ⟨u.below h.b (Nat.le_of_lt hb), u.blk h.k (by omega), Nat.lt_of_lt_of_le h.z u.k.size⟩
/-- A block of the call's own (made since w) that holds these cells; nothing that was there at w has changed. -/
structure Own (w : World) (b : Nat) (cs : List Value) (t : TypeId) (w' : World) : Prop where
  bel : Below w.heap.size w w'
  n : w.heap.size ≤ b
  k : Blk w' b cs t
theorem Own.lt {w w1 : World} {b : Nat} {cs : List Value} {t : TypeId} (h : Own w b cs t w1) : b < w1.heap.size := h.k.lt
theorem Own.new {w w1 : World} (hb : Below w.heap.size w w1) (A : Array Value) (t : TypeId) : Own w w1.heap.size A.toList t (w1.alloc (.cells A t)) :=
  ⟨hb.alloc hb.size _, hb.size, Blk.new w1 _ _⟩
theorem Own.newL {w w1 : World} (hb : Below w.heap.size w w1) (cs : List Value) (t : TypeId) : Own w w1.heap.size cs t (w1.alloc (.cells cs.toArray t)) := Own.new hb cs.toArray t
theorem Own.alloc {w w1 : World} {b : Nat} {cs : List Value} {t : TypeId} (h : Own w b cs t w1) (o : Obj) : Own w b cs t (w1.alloc o) := ⟨h.bel.alloc h.bel.size _, h.n, h.k.alloc o⟩
theorem Own.step {w w1 w2 : World} {b : Nat} {cs : List Value} {t : TypeId} (h : Own w b cs t w1) (hb : Below w1.heap.size w1 w2) : Own w b cs t w2 :=
  ⟨h.bel.trans (hb.mono h.bel.size), h.n, h.k.below hb h.lt⟩
theorem Own.drewN {w w1 : World} {b : Nat} {cs : List Value} {t : TypeId} (h : Own w b cs t w1) (m : Nat) : Own w b cs t (w1.drewN m) := ⟨below_drewN h.bel m, h.n, h.k.drewN m⟩
theorem Own.set {w w1 : World} {b : Nat} {cs : List Value} {t : TypeId} (h : Own w b cs t w1) (k : Nat) (v : Value) : Own w b (cs.set k v) t (w1.setCell ⟨b, k, none⟩ v) :=
  ⟨h.bel.setCell h.n v, h.n, h.k.set k v⟩
theorem Own.setAll {w w1 : World} {b : Nat} {cs : List Value} {t : TypeId} (h : Own w b cs t w1) (vs : List Value) (hl : vs.length = cs.length) : Own w b vs t (w1.setCells b 0 vs) :=
  ⟨below_setCells h.bel h.n 0 vs, h.n, blk_setAll h.k hl⟩
theorem Own.setO {w w1 : World} {b b' : Nat} {cs : List Value} {t : TypeId} (h : Own w b cs t w1) (hb : b' ≠ b) (hn : w.heap.size ≤ b') (k : Nat) (v : Value) : Own w b cs t (w1.setCell ⟨b', k, none⟩ v) :=
  ⟨h.bel.setCell hn v, h.n, h.k.other hb v⟩
theorem Own.setAllO {w w1 : World} {b b' : Nat} {cs : List Value} {t : TypeId} (h : Own w b cs t w1) (hb : b' ≠ b) (hn : w.heap.size ≤ b') (o : Nat) (vs : List Value) : Own w b cs t (w1.setCells b' o vs) :=
  ⟨below_setCells h.bel hn o vs, h.n, blk_setOther h.k (Ne.symm hb) o vs⟩
theorem Own.upd {w w1 w2 : World} {b : Nat} {cs cs' : List Value} {t t' : TypeId} (h : Own w b cs t w1) (u : Upd b cs' t' w1 w2) : Own w b cs' t' w2 := ⟨u.below h.bel h.n, h.n, u.c⟩
theorem Own.updO {w w1 w2 : World} {b b' : Nat} {cs cs' : List Value} {t t' : TypeId} (h : Own w b cs t w1) (hb : b' ≠ b) (hn : w.heap.size ≤ b') (u : Upd b' cs' t' w1 w2) : Own w b cs t w2 := ⟨u.below h.bel hn, h.n, u.blk h.k (Ne.symm hb)⟩
theorem Own.cell {w w1 : World} {b : Nat} {cs : List Value} {t : TypeId} (h : Own w b cs t w1) {i : Nat} {v : Value} (hv : cs[i]? = some v) : w1.cell? ⟨b, i, none⟩ = some v := h.k.cellAt hv
theorem Own.fro {w w1 : World} {b : Nat} {cs : List Value} {t : TypeId} (h : Own w b cs t w1) (i : Nat) : w1.frozen? ⟨b, i, none⟩ = false := h.k.unfrozen i
theorem Own.all {w w1 : World} {b : Nat} {cs : List Value} {t : TypeId} (h : Own w b cs t w1) : w1.rangeAt b 0 cs := range_all h.k
theorem Own.there {w w1 : World} {b : Nat} {cs : List Value} {t : TypeId} (h : Own w b cs t w1) {n : Nat} (hn : n ≤ cs.length) : w1.there b 0 n := there_of_blk h.k (by omega)
theorem Own.drew' {w w1 w2 : World} {b : Nat} {cs : List Value} {t : TypeId} (h : Own w b cs t w1) (hm : ∃ n, w2 = w1.drewN n) : Own w b cs t w2 := by
  obtain ⟨n, rfl⟩ := hm
  exact h.drewN n
theorem Own.store {P : Program} {w w1 : World} {b : Nat} {cs : List Value} {t : TypeId} (h : Own w b cs t w1) (vs : List Value) (hl : vs.length = cs.length) (h1 : ∀ v ∈ vs, v.oneCell' = true) :
    (storeCells ⟨b, 0, none⟩ vs).run P w1 = .ok () (w1.setCells b 0 vs) := by
  have ht := h.there (n := vs.length) (by omega)
  exact run_storeCells_cells (P := P) b 0 vs 0 w1 (fun j hj => by simpa using (ht j hj).1) (fun j hj => by simpa using (ht j hj).2) h1
theorem Own.keep {S : Nat → Prop} {w w1 w2 : World} {b : Nat} {cs : List Value} {t : TypeId} (h : Own w b cs t w1) (k : Keep S w1 w2) (hb : ¬ S b) (hs : ∀ i, i < w.heap.size → ¬ S i) : Own w b cs t w2 :=
  ⟨Keep.belowB h.bel k h.bel.size hs, h.n, h.k.keep k hb⟩
theorem own_ge {w : World} {base : Nat} {e : TypeId} {size : Nat} {v : Value} {n : Nat} {xs : List Value} (h : w.ownsRow base e size v n xs) : ∀ g, v.ownBlock = some g → base ≤ g := fun g hg => (World.ownsRow.lt h g hg).1
theorem own_form {w : World} {base : Nat} {e : TypeId} {size : Nat} {v : Value} {n : Nat} {xs : List Value} (h : w.ownsRow base e size v n xs) : ∃ a cap, v = .slice a n cap := by
  rcases h.2 with ⟨hv, h0⟩ | ⟨g, cap, cur, hv, _⟩
  · exact ⟨none, 0, by rw [hv, h0]⟩
  · exact ⟨_, cap, hv⟩
/-- A quiet call behind quiet regions. -/
theorem quiet_add_left {P : Program} {f : FuncId} {args : Array Value} {w : World} {a n : Nat} {v : Value}
    (h : Calls P f args (w.drewN (a + n)) fun e w' => e = .returned v ∧ w.drewN (a + n) = w') :
    Calls P f args (w.drewN (a + n)) fun e w'' => e = .returned v ∧ ∃ m, w'' = w.drewN (a + m) :=
  h.mono fun _ _ ⟨he, hm⟩ => ⟨he, n, hm.symm⟩
theorem quiet_left {P : Program} {f : FuncId} {args : Array Value} {w : World} {n : Nat} {v : Value}
    (h : Calls P f args (w.drewN n) fun e w' => e = .returned v ∧ w.drewN n = w') : Calls P f args (w.drewN n) fun e w'' => e = .returned v ∧ ∃ m, w'' = w.drewN m :=
  h.mono fun _ _ ⟨he, hm⟩ => ⟨he, n, hm.symm⟩
theorem quiet_add {P : Program} {f : FuncId} {args : Array Value} {w : World} {a n : Nat} {v : Value}
    (h : Calls P f args (w.drewN (a + n)) fun e w' => e = .returned v ∧ ∃ m, w' = (w.drewN (a + n)).drewN m) :
    Calls P f args (w.drewN (a + n)) fun e w'' => e = .returned v ∧ ∃ m, w'' = w.drewN (a + m) :=
  h.mono fun _ _ ⟨he, m, hm⟩ => ⟨he, n + m, by rw [hm, World.drewN_drewN, Nat.add_assoc]⟩
/-- A world in which a row of the call's own has grown. -/
theorem keep_grown {w w' : World} {row : Option Nat} (h : w.grownBy w' row) : Keep (fun i => row = some i) w w' :=
  ⟨h.os, h.tape, h.output, h.size, fun k hk hs => h.block k hk (fun e => hs e.symm)⟩
theorem below_grown {w0 w w' : World} {row : Option Nat} (hb : Below w0.heap.size w0 w) (h : w.grownBy w' row) (hr : ∀ k, row = some k → w0.heap.size ≤ k) : Below w0.heap.size w0 w' :=
  Keep.belowB hb (keep_grown h) hb.size (fun i hi e => by have := hr i e; omega)
theorem sl_form {w : World} {base : Nat} {e : TypeId} {size : Nat} {v : Value} {n : Nat} {xs : List Value} (h : w.ownsRow base e size v n xs) (hn : 0 < n) :
    ∃ g cap sp, v = .slice (some ⟨g, 0, none⟩) n cap ∧ base ≤ g ∧ n ≤ cap ∧ cap ≤ maxLen ∧ Blk w g (xs ++ sp) e := by
  rcases h.2 with ⟨_, h0⟩ | ⟨g, cap, cur, hv, hb, hg, hc, hm, hs, ht⟩
  · omega
  · refine ⟨g, cap, cur.toList.drop (n * size), hv, hb, hc, hm, ?_⟩
    have e1 : xs ++ cur.toList.drop (n * size) = cur.toList := by rw [← ht, List.take_append_drop]
    unfold Blk
    rw [e1]
    simpa using hg
theorem sl_zero {w : World} {base : Nat} {e : TypeId} {size : Nat} {v : Value} {xs : List Value} (h : w.ownsRow base e size v 0 xs) : xs = [] := by
  have := h.1
  simpa using this
/-- A row of the call's own, in a world in which its block stands. -/
theorem sl_keep {w w' : World} {S : Nat → Prop} {base : Nat} {e : TypeId} {size : Nat} {v : Value} {n : Nat} {xs : List Value} (h : w.ownsRow base e size v n xs) (k : Keep S w w') (hs : ∀ g, v.ownBlock = some g → ¬ S g) : w'.ownsRow base e size v n xs := by
  refine ⟨h.1, ?_⟩
  rcases h.2 with h0 | ⟨g, cap, cur, hv, hb, hg, hr⟩
  · exact .inl h0
  · refine .inr ⟨g, cap, cur, hv, hb, ?_, hr⟩
    have hl : g < w.heap.size := by
      rcases Nat.lt_or_ge g w.heap.size with h1 | h1
      · exact h1
      · rw [Array.getElem?_eq_none h1] at hg; cases hg
    rw [k.block g hl (hs g (by rw [hv]; rfl)), hg]
theorem sl_below {w w' : World} {base : Nat} {e : TypeId} {size : Nat} {v : Value} {n : Nat} {xs : List Value} (h : w.ownsRow base e size v n xs) (hb : Below w.heap.size w w') : w'.ownsRow base e size v n xs :=
  sl_keep (S := fun _ => False) h (Keep.of_below hb) (fun _ _ h => h)
theorem news_blk {w : World} {b : Nat} {cs sp : List Value} {t : TypeId} (h : Blk w b (cs ++ sp) t) : ∀ j u, cs[j]? = some u → w.cell? ((⟨b, 0, none⟩ : Addr).add j) = some u := fun j u hu => by
  rw [add_blk]
  refine h.cellAt ?_
  have hj : j < cs.length := by
    rcases Nat.lt_or_ge j cs.length with h1 | h1
    · exact h1
    · rw [List.getElem?_eq_none h1] at hu; cases hu
  rw [List.getElem?_append_left hj, hu]
/-- A seat: its registers (R, PC, Base, Vec, EPC, Cause, Addr), and the rest. -/
structure Se where
  r : List Nat
  op : Bool
  st : Nat
  pe : Nat
  ma : Nat
deriving DecidableEq
def Se.cells (x : Se) : List Value := x.r.map enc64 ++ [.bool x.op, .int .u8 (x.st : Int), .int .u32 (x.pe : Int), .int .u32 (x.ma : Int)]
structure Se.Ok (x : Se) : Prop where
  l : x.r.length = 22
  w : ∀ y ∈ x.r, y < 2 ^ 64
  s : x.st < 256
  p : x.pe < 2 ^ 32
  m : x.ma < 2 ^ 32
theorem Se.Ok.len {x : Se} (h : x.Ok) : x.cells.length = 26 := by simp [Se.cells, h.l]
theorem Se.Ok.g22 {x : Se} (h : x.Ok) : x.cells[22]? = some (.bool x.op) := by simp [Se.cells, h.l, List.getElem?_append_right]
theorem Se.Ok.g23 {x : Se} (h : x.Ok) : x.cells[23]? = some (.int .u8 (x.st : Int)) := by simp [Se.cells, h.l, List.getElem?_append_right]
theorem Se.Ok.g24 {x : Se} (h : x.Ok) : x.cells[24]? = some (.int .u32 (x.pe : Int)) := by simp [Se.cells, h.l, List.getElem?_append_right]
theorem Se.Ok.g25 {x : Se} (h : x.Ok) : x.cells[25]? = some (.int .u32 (x.ma : Int)) := by simp [Se.cells, h.l, List.getElem?_append_right]
theorem Se.Ok.gr {x : Se} (h : x.Ok) {i : Nat} (hi : i < 22) : x.cells[i]? = some (.int .u64 ((x.r.getD i 0 : Nat) : Int)) := by
  have hl := h.l
  rw [Se.cells, List.getElem?_append_left (by rw [List.length_map, hl]; exact hi), List.getElem?_map, List.getD_eq_getElem?_getD, List.getElem?_eq_getElem (by omega)]; rfl
theorem set_tail (a l : List Value) (n i : Nat) (v : Value) (h : a.length = n) : (a ++ l).set (n + i) v = a ++ l.set i v := by
  rw [List.set_append_right _ _ (by omega), h, Nat.add_sub_cancel_left]
theorem Se.Ok.s22 {x : Se} (h : x.Ok) (v : Bool) : x.cells.set 22 (.bool v) = { x with op := v }.cells := set_tail _ _ 22 0 _ (by simp [h.l])
theorem Se.Ok.s23 {x : Se} (h : x.Ok) (v : Nat) : x.cells.set 23 (.int .u8 (v : Int)) = { x with st := v }.cells := set_tail _ _ 22 1 _ (by simp [h.l])
theorem Se.Ok.s24 {x : Se} (h : x.Ok) (v : Nat) : x.cells.set 24 (.int .u32 (v : Int)) = { x with pe := v }.cells := set_tail _ _ 22 2 _ (by simp [h.l])
theorem Se.Ok.s25 {x : Se} (h : x.Ok) (v : Nat) : x.cells.set 25 (.int .u32 (v : Int)) = { x with ma := v }.cells := set_tail _ _ 22 3 _ (by simp [h.l])
theorem Se.Ok.sr {x : Se} (h : x.Ok) {i : Nat} (hi : i < 22) (v : Nat) : x.cells.set i (.int .u64 (v : Int)) = { x with r := x.r.set i v }.cells := by
  have hl := h.l
  rw [Se.cells, List.set_append_left _ _ (by rw [List.length_map, hl]; exact hi)]
  show _ = (x.r.set i v).map enc64 ++ _
  rw [List.map_set]; rfl
theorem Se.one (x : Se) : ∀ v ∈ x.cells, v.oneCell' = true := by
  intro v hv
  simp only [Se.cells, List.mem_append, List.mem_map, List.mem_cons, List.not_mem_nil, or_false] at hv
  rcases hv with ⟨y, _, rfl⟩ | rfl | rfl | rfl | rfl <;> rfl
def seSh : Sh := .seq (.rep 16 (.int .u64)) (.seq (.int .u64) (.seq (.int .u64) (.seq (.int .u64) (.seq (.int .u64) (.seq (.int .u64) (.seq (.int .u64) (.seq .bool (.seq (.int .u8) (.seq (.int .u32) (.seq (.int .u32) .nil))))))))))
theorem nats64 : ∀ l : List Int, (∀ x ∈ l, (Lit.int .u64 x).wf = true) → ∃ m : List Nat, l.map (Value.int .u64) = m.map enc64 ∧ m.length = l.length ∧ ∀ y ∈ m, y < 2 ^ 64 := by
  intro l
  induction l with
  | nil => exact fun _ => ⟨[], rfl, rfl, by simp⟩
  | cons x l ih =>
    intro h
    obtain ⟨m, e1, e2, e3⟩ := ih (fun y hy => h y (by simp [hy]))
    obtain ⟨n, rfl, hn⟩ := wf_u64 (h x (by simp))
    refine ⟨n :: m, by simp [e1, enc64], by simp [e2], ?_⟩
    intro y hy
    simp only [List.mem_cons] at hy
    rcases hy with rfl | hy
    · exact hn
    · exact e3 y hy
theorem seat_of_fits {w : World} {cs : List Value} (h : Fits w seSh cs) : ∃ x : Se, cs = x.cells ∧ x.Ok := by
  obtain ⟨_, _, rfl, h0, _, _, rfl, ⟨a1, rfl, w1⟩, _, _, rfl, ⟨a2, rfl, w2⟩, _, _, rfl, ⟨a3, rfl, w3⟩, _, _, rfl, ⟨a4, rfl, w4⟩, _, _, rfl, ⟨a5, rfl, w5⟩, _, _, rfl, ⟨a6, rfl, w6⟩,
    _, _, rfl, ⟨op, rfl⟩, _, _, rfl, ⟨st, rfl, ws⟩, _, _, rfl, ⟨pe, rfl, wp⟩, _, _, rfl, ⟨ma, rfl, wm⟩, h9⟩ := h
  simp only [Fits] at h9
  subst h9
  obtain ⟨l, hl, rfl, hw⟩ := fits_ints h0
  obtain ⟨m, e1, e2, e3⟩ := nats64 (l ++ [a1, a2, a3, a4, a5, a6]) (by
    intro x hx
    simp only [List.mem_append, List.mem_cons, List.not_mem_nil, or_false] at hx
    rcases hx with hx | rfl | rfl | rfl | rfl | rfl | rfl
    · exact hw x hx
    all_goals assumption)
  obtain ⟨ns, rfl, hs⟩ := wf_u8 ws
  obtain ⟨np, rfl, hp⟩ := wf_u32 wp
  obtain ⟨nm, rfl, hm⟩ := wf_u32 wm
  refine ⟨⟨m, op, ns, np, nm⟩, ?_, ⟨by simp [e2, hl], e3, hs, hp, hm⟩⟩
  show _ = m.map enc64 ++ _
  rw [← e1]
  simp
theorem wf_u64_mk {n : Nat} (h : n < 2 ^ 64) : (Lit.int .u64 (n : Int)).wf = true := by simp [Lit.wf, IntKind.min, IntKind.max, IntKind.signed, IntKind.bits]; omega
theorem wf_u32_mk {n : Nat} (h : n < 2 ^ 32) : (Lit.int .u32 (n : Int)).wf = true := by simp [Lit.wf, IntKind.min, IntKind.max, IntKind.signed, IntKind.bits]; omega
theorem wf_u8_mk {n : Nat} (h : n < 256) : (Lit.int .u8 (n : Int)).wf = true := by simp [Lit.wf, IntKind.min, IntKind.max, IntKind.signed, IntKind.bits]; omega
theorem fits_nats {w : World} (n : Nat) (l : List Nat) (hn : l.length = n) (h : ∀ x ∈ l, x < 2 ^ 64) : Fits w (.rep n (.int .u64)) (l.map enc64) := by
  subst hn
  have := fits_mk_ints (w := w) (k := .u64) (l.map fun x : Nat => (x : Int)) (by
    intro x hx
    obtain ⟨y, hy, rfl⟩ := List.mem_map.1 hx
    exact wf_u64_mk (h y hy))
  have e : enc64 = fun x : Nat => Value.int .u64 (x : Int) := rfl
  rw [e]
  simpa [List.map_map, Function.comp_def] using this
theorem Se.Ok.fits {x : Se} (h : x.Ok) (w : World) : Fits w seSh x.cells := by
  obtain ⟨r, op, st, pe, ma⟩ := x
  obtain ⟨hl, hw, hs, hp, hm⟩ := h
  simp only at hl hw hs hp hm
  have e : r = r.take 16 ++ r.drop 16 := (List.take_append_drop 16 r).symm
  have hl2 : (r.drop 16).length = 6 := by simp [hl]
  match hd : r.drop 16, hl2 with
  | [a1, a2, a3, a4, a5, a6], _ =>
    have hw2 : ∀ y ∈ [a1, a2, a3, a4, a5, a6], y < 2 ^ 64 := fun y hy => hw y (by rw [e, hd]; exact List.mem_append_right _ hy)
    have ec : (Se.mk r op st pe ma).cells = (r.take 16).map enc64 ++ ([enc64 a1] ++ ([enc64 a2] ++ ([enc64 a3] ++ ([enc64 a4] ++ ([enc64 a5] ++ ([enc64 a6] ++ ([.bool op] ++ ([.int .u8 (st : Int)] ++ ([.int .u32 (pe : Int)] ++ ([.int .u32 (ma : Int)] ++ [])))))))))) := by
      show r.map enc64 ++ _ = _
      conv => lhs; rw [e, hd]
      simp
    rw [ec]
    exact ⟨_, _, rfl, fits_nats 16 _ (by simp [hl]) (fun y hy => hw y (List.mem_of_mem_take hy)), _, _, rfl, ⟨_, rfl, wf_u64_mk (hw2 _ (by simp))⟩, _, _, rfl, ⟨_, rfl, wf_u64_mk (hw2 _ (by simp))⟩, _, _, rfl, ⟨_, rfl, wf_u64_mk (hw2 _ (by simp))⟩,
      _, _, rfl, ⟨_, rfl, wf_u64_mk (hw2 _ (by simp))⟩, _, _, rfl, ⟨_, rfl, wf_u64_mk (hw2 _ (by simp))⟩, _, _, rfl, ⟨_, rfl, wf_u64_mk (hw2 _ (by simp))⟩, _, _, rfl, ⟨_, rfl⟩, _, _, rfl, ⟨_, rfl, wf_u8_mk hs⟩, _, _, rfl, ⟨_, rfl, wf_u32_mk hp⟩, _, _, rfl, ⟨_, rfl, wf_u32_mk hm⟩, rfl⟩
def trapS (x : Se) (c a : Nat) : Se := if x.r.getD 18 0 = 0 then { x with st := 2 } else { x with r := (((x.r.set 19 (x.r.getD 16 0)).set 20 c).set 21 a).set 16 (x.r.getD 18 0), op := false }
theorem trap_ok {x : Se} (h : x.Ok) {c a : Nat} (hc : c < 2 ^ 64) (ha : a < 2 ^ 64) : (trapS x c a).Ok := by
  unfold trapS
  have hg : ∀ i, x.r.getD i 0 < 2 ^ 64 := by
    intro i
    rw [List.getD_eq_getElem?_getD]
    cases hi : x.r[i]? with
    | none => simp
    | some y => exact h.w y (List.mem_of_getElem? hi)
  have hset : ∀ (l : List Nat) i v, (∀ y ∈ l, y < 2 ^ 64) → v < 2 ^ 64 → ∀ y ∈ l.set i v, y < 2 ^ 64 := by
    intro l i v hl hv y hy
    rcases List.mem_or_eq_of_mem_set hy with h | h
    · exact hl y h
    · rw [h]; exact hv
  split
  · exact ⟨h.l, h.w, by show 2 < 256; omega, h.p, h.m⟩
  · exact ⟨by simp [h.l], hset _ _ _ (hset _ _ _ (hset _ _ _ (hset _ _ _ h.w (hg 16)) hc) ha) (hg 18), h.s, h.p, h.m⟩
set_option maxHeartbeats 1000000 in
theorem trap_nil (c a : Int) (w : World) : Calls Try.prog 10 #[.pointer none, .int .u64 c, .int .u64 a] w fun e w' => e = .returned (.tuple #[]) ∧ w = w' := by
  go_enter Try.func10, Try.ntmps10
  go_wp2
  first | go_end0 | refine bodyPost_ret (results_none rfl _ _ _) rfl ?_
  exact ⟨rfl, rfl⟩
set_option maxHeartbeats 2000000 in
theorem trap_calls (x : Se) (h : x.Ok) (c a : Nat) (hc : c < 2 ^ 64) (ha : a < 2 ^ 64) (b : Nat) (w : World) (hb : Blk w b x.cells 26) :
    Calls Try.prog 10 #[.pointer (some ⟨b, 0, none⟩), .int .u64 (c : Int), .int .u64 (a : Int)] w fun e w' => e = .returned (.tuple #[]) ∧ Upd b (trapS x c a).cells 26 w w' := by
  have U := Lib.hid (Upd.same hb)
  have c16 := hb.cellAt (h.gr (i := 16) (by omega))
  have c18 := hb.cellAt (h.gr (i := 18) (by omega))
  have c19 := hb.cellAt (h.gr (i := 19) (by omega))
  have c20 := hb.cellAt (h.gr (i := 20) (by omega))
  have c21 := hb.cellAt (h.gr (i := 21) (by omega))
  have c22 := hb.cellAt h.g22
  have c23 := hb.cellAt h.g23
  have f16 := hb.unfrozen 16
  have f19 := hb.unfrozen 19
  have f20 := hb.unfrozen 20
  have f21 := hb.unfrozen 21
  have f22 := hb.unfrozen 22
  have f23 := hb.unfrozen 23
  have HT := Lib.hid (show trapS x c a = if x.r.getD 18 0 = 0 then { x with st := 2 } else { x with r := (((x.r.set 19 (x.r.getD 16 0)).set 20 c).set 21 a).set 16 (x.r.getD 18 0), op := false } from rfl)
  generalize trapS x c a = res at *
  by_cases hv : x.r.getD 18 0 = 0
  · have hz : (((x.r.getD 18 0 : Nat) : Int) == 0) = true := by simpa using hv
    have U1 := Lib.hid (U.out.set 23 (.int .u8 ((2 : Nat) : Int)))
    rw [h.s23 2] at U1
    have E := Lib.hid (show res = { x with st := 2 } by rw [HT.out, if_pos hv])
    clear HT hv
    generalize ((x.r.getD 18 0 : Nat) : Int) = v18 at *
    generalize ((x.r.getD 16 0 : Nat) : Int) = v16 at *
    go_enter Try.func10, Try.ntmps10
    go_wp2
    first | go_end0 | refine bodyPost_ret (results_none rfl _ _ _) rfl ?_
    exact ⟨rfl, by rw [E.out]; exact U1.out⟩
  · have hz : (((x.r.getD 18 0 : Nat) : Int) == 0) = false := by simpa using hv
    have E := Lib.hid (show res = { x with r := (((x.r.set 19 (x.r.getD 16 0)).set 20 c).set 21 a).set 16 (x.r.getD 18 0), op := false } by rw [HT.out, if_neg hv])
    clear HT hv
    have U1 : Hid (∀ w1, Upd b x.cells 26 w w1 → Upd b res.cells 26 w (((((w1.setCell ⟨b, 19, none⟩ (.int .u64 ((x.r.getD 16 0 : Nat) : Int))).setCell ⟨b, 20, none⟩ (.int .u64 (c : Int))).setCell ⟨b, 21, none⟩ (.int .u64 (a : Int))).setCell ⟨b, 16, none⟩ (.int .u64 ((x.r.getD 18 0 : Nat) : Int))).setCell ⟨b, 22, none⟩ (.bool false))) := by
      intro w1 u
      have kr : ∀ (r : List Nat), r.length = 22 → (∀ y ∈ r, y < 2 ^ 64) → ({ x with r := r } : Se).Ok := fun r h1 h2 => ⟨h1, h2, h.s, h.p, h.m⟩
      have e1 := h.sr (i := 19) (by omega) (x.r.getD 16 0)
      have hg : ∀ i, x.r.getD i 0 < 2 ^ 64 := by
        intro i
        rw [List.getD_eq_getElem?_getD]
        cases hi : x.r[i]? with
        | none => simp
        | some y => exact h.w y (List.mem_of_getElem? hi)
      have hset : ∀ (l : List Nat) i v, (∀ y ∈ l, y < 2 ^ 64) → v < 2 ^ 64 → ∀ y ∈ l.set i v, y < 2 ^ 64 := by
        intro l i v hl hv y hy
        rcases List.mem_or_eq_of_mem_set hy with h | h
        · exact hl y h
        · rw [h]; exact hv
      have k1 := kr (x.r.set 19 (x.r.getD 16 0)) (by simp [h.l]) (hset _ _ _ h.w (hg 16))
      have e2 := k1.sr (i := 20) (by omega) c
      have k2 := kr ((x.r.set 19 (x.r.getD 16 0)).set 20 c) (by simp [h.l]) (hset _ _ _ k1.w hc)
      have e3 := k2.sr (i := 21) (by omega) a
      have k3 := kr (((x.r.set 19 (x.r.getD 16 0)).set 20 c).set 21 a) (by simp [h.l]) (hset _ _ _ k2.w ha)
      have e4 := k3.sr (i := 16) (by omega) (x.r.getD 18 0)
      have k4 := kr ((((x.r.set 19 (x.r.getD 16 0)).set 20 c).set 21 a).set 16 (x.r.getD 18 0)) (by simp [h.l]) (hset _ _ _ k3.w (hg 18))
      have e5 := k4.s22 false
      have u5 := ((((u.set 19 (.int .u64 ((x.r.getD 16 0 : Nat) : Int))).set 20 (.int .u64 (c : Int))).set 21 (.int .u64 (a : Int))).set 16 (.int .u64 ((x.r.getD 18 0 : Nat) : Int))).set 22 (.bool false)
      rw [e1, e2, e3, e4, e5] at u5
      rw [E.out]
      exact u5
    clear E
    generalize ((x.r.getD 18 0 : Nat) : Int) = v18 at *
    generalize ((x.r.getD 16 0 : Nat) : Int) = v16 at *
    generalize ((x.r.getD 19 0 : Nat) : Int) = v19 at *
    generalize ((x.r.getD 20 0 : Nat) : Int) = v20 at *
    generalize ((x.r.getD 21 0 : Nat) : Int) = v21 at *
    go_enter Try.func10, Try.ntmps10
    go_wp2
    go_region
    go_wp2
    first | go_end0 | refine bodyPost_ret (results_none rfl _ _ _) rfl ?_
    exact ⟨rfl, (U1.out _ U.out).drewN 1⟩
def backS (x : Se) : Se := { x with r := x.r.set 16 (x.r.getD 19 0), op := true }
theorem getD_lt {x : Se} (h : x.Ok) (i : Nat) : x.r.getD i 0 < 2 ^ 64 := by
  rw [List.getD_eq_getElem?_getD]
  cases hi : x.r[i]? with
  | none => simp
  | some y => exact h.w y (List.mem_of_getElem? hi)
theorem set_lt {l : List Nat} {i v : Nat} (hl : ∀ y ∈ l, y < 2 ^ 64) (hv : v < 2 ^ 64) : ∀ y ∈ l.set i v, y < 2 ^ 64 := by
  intro y hy
  rcases List.mem_or_eq_of_mem_set hy with h | h
  · exact hl y h
  · rw [h]; exact hv
theorem back_ok {x : Se} (h : x.Ok) : (backS x).Ok := ⟨by simp [backS, h.l], set_lt h.w (getD_lt h 19), h.s, h.p, h.m⟩
set_option maxHeartbeats 1000000 in
theorem back_nil (w : World) : Calls Try.prog 13 #[.pointer none] w fun e w' => e = .returned (.tuple #[]) ∧ w = w' := by
  go_enter Try.func13, Try.ntmps13
  go_wp2
  first | go_end0 | refine bodyPost_ret (results_none rfl _ _ _) rfl ?_
  exact ⟨rfl, rfl⟩
set_option maxHeartbeats 1000000 in
theorem back_calls (x : Se) (h : x.Ok) (b : Nat) (w : World) (hb : Blk w b x.cells 26) :
    Calls Try.prog 13 #[.pointer (some ⟨b, 0, none⟩)] w fun e w' => e = .returned (.tuple #[]) ∧ Upd b (backS x).cells 26 w w' := by
  have c16 := hb.cellAt (h.gr (i := 16) (by omega))
  have c19 := hb.cellAt (h.gr (i := 19) (by omega))
  have c22 := hb.cellAt h.g22
  have f16 := hb.unfrozen 16
  have f22 := hb.unfrozen 22
  have U1 : Hid (∀ w1, Upd b x.cells 26 w w1 → Upd b (backS x).cells 26 w ((w1.setCell ⟨b, 16, none⟩ (.int .u64 ((x.r.getD 19 0 : Nat) : Int))).setCell ⟨b, 22, none⟩ (.bool true))) := by
    intro w1 u
    have k1 : ({ x with r := x.r.set 16 (x.r.getD 19 0) } : Se).Ok := ⟨by simp [h.l], set_lt h.w (getD_lt h 19), h.s, h.p, h.m⟩
    have u5 := (u.set 16 (.int .u64 ((x.r.getD 19 0 : Nat) : Int))).set 22 (.bool true)
    rw [h.sr (by omega), k1.s22 true] at u5
    exact u5
  have U := Lib.hid (Upd.same hb)
  generalize ((x.r.getD 16 0 : Nat) : Int) = v16 at *
  generalize ((x.r.getD 19 0 : Nat) : Int) = v19 at *
  go_enter Try.func13, Try.ntmps13
  go_wp2
  first | go_end0 | refine bodyPost_ret (results_none rfl _ _ _) rfl ?_
  exact ⟨rfl, U1.out _ U.out⟩
def flagN (b : Bool) : Nat := if b = true then 1 else 0
set_option maxHeartbeats 1000000 in
theorem flag_calls (b : Bool) (w : World) : Calls Try.prog 22 #[.bool b] w fun e w' => e = .returned (.int .u64 ((flagN b : Nat) : Int)) ∧ w = w' := by
  cases b
  all_goals
    go_enter Try.func22, Try.ntmps22
    go_wp2
    go_ret
    exact ⟨rfl, rfl⟩
/-- A seat as words. -/
def packL (x : Se) : List Nat := x.r ++ [flagN x.op, x.st, x.pe, x.ma]
theorem packL_len {x : Se} (h : x.Ok) : (packL x).length = 26 := by simp [packL, h.l]
theorem packL_lt {x : Se} (h : x.Ok) : ∀ y ∈ packL x, y < 2 ^ 64 := by
  intro y hy
  simp only [packL, List.mem_append, List.mem_cons, List.not_mem_nil, or_false] at hy
  rcases hy with hy | rfl | rfl | rfl | rfl
  · exact h.w y hy
  · unfold flagN; split <;> omega
  · have := h.s; omega
  · have := h.p; omega
  · have := h.m; omega
theorem word_info : ∃ i, Try.prog.info? 22 = some i ∧ i.zero = some (.int .u64 0) ∧ i.size = 1 ∧ i.bytes = 8 := by
  have h : (Try.prog.info? 22).map (fun i => (i.zero, i.size, i.bytes)) = some (some (.int .u64 0), 1, 8) := by kernel_rfl
  obtain ⟨i, hi, he⟩ := Option.map_eq_some_iff.1 h
  simp only [Prod.mk.injEq] at he
  exact ⟨i, hi, he.1, he.2.1, he.2.2⟩
theorem one_enc64 (l : List Nat) : ∀ v ∈ l.map enc64, v.oneCell' = true := by
  intro v hv
  obtain ⟨x, _, rfl⟩ := List.mem_map.1 hv
  rfl
theorem row_owns64 {w : World} {base : Nat} {e : TypeId} {v : Value} {n : Nat} {l : List Nat} (h : w.ownsRow base e 1 v n (l.map enc64)) : Row w enc64 v l := by
  have hl : l.length = n := by have := h.1; simpa using this
  by_cases h0 : 0 < n
  · obtain ⟨g, cap, sp, rfl, _, hc, _, hb⟩ := sl_form h h0
    subst hl
    refine .inr ⟨⟨g, 0, none⟩, cap, rfl, hc, fun i x hi => ?_⟩
    exact news_blk hb i _ (by rw [List.getElem?_map, hi]; rfl)
  · have h1 : n = 0 := by omega
    subst h1
    have h2 : l = [] := List.eq_nil_of_length_eq_zero hl
    subst h2
    rcases h.2 with ⟨hv, _⟩ | ⟨g, cap, cur, hv, _, _, hc, _⟩
    · exact .inl ⟨hv, rfl⟩
    · exact .inr ⟨⟨g, 0, none⟩, cap, hv, hc, fun i x hi => by simp at hi⟩
def RowP (w : World) (l : List Nat) (e : Ending) (w' : World) : Prop := ∃ v, e = .returned v ∧ Row w' enc64 v l ∧ Below w.heap.size w w'
theorem flag_still (b : Bool) (w : World) : Calls Try.prog 22 #[.bool b] w fun e w' => e = .returned (.int .u64 ((flagN b : Nat) : Int)) ∧ w' = w := (flag_calls b w).mono fun _ _ ⟨h1, h2⟩ => ⟨h1, h2.symm⟩
set_option maxHeartbeats 2000000 in
theorem pack_calls (x : Se) (h : x.Ok) (w : World) : Calls Try.prog 14 #[.agg x.cells.toArray] w (RowP w (packL x)) := by
  obtain ⟨ii, hii, hz, hs, hb⟩ := word_info
  have HI := Lib.hid hii
  have HZ := Lib.hid hz
  have HSz := Lib.hid hs
  have HBy := Lib.hid hb
  clear hii hz hs hb
  have X1 : Hid (Own w w.heap.size x.cells 26 (w.alloc (.cells x.cells.toArray 26))) := Own.newL (Below.refl _ _) _ _
  have HL := Lib.hid h.l
  have NW : Hid (∀ w1, Blk w1 w.heap.size x.cells 26 → ∀ j u, ((x.r.take 16).map enc64)[j]? = some u → w1.cell? ((⟨w.heap.size, 0, none⟩ : Addr).add j) = some u) := by
    intro w1 hb j u hu
    rw [add_blk]
    refine hb.cellAt ?_
    rw [List.getElem?_map] at hu
    obtain ⟨y, hy, rfl⟩ := Option.map_eq_some_iff.1 hu
    have hj : j < 16 := by
      have := (List.getElem?_eq_some_iff.1 hy).1
      rw [List.length_take] at this
      omega
    rw [List.getElem?_take, if_pos hj] at hy
    rw [Se.cells, List.getElem?_append_left (by rw [List.length_map, h.l]; omega), List.getElem?_map, hy]
    rfl
  have LL := Lib.hid (show ((x.r.take 16).map enc64).length = 16 * 1 by rw [List.length_map, List.length_take, h.l]; rfl)
  have LO := Lib.hid (one_enc64 (x.r.take 16))
  have OK := Lib.hid h
  clear h
  generalize hXC : x.cells = XC at *
  have HXC := Lib.hid hXC
  clear hXC
  go_enter Try.func14, Try.ntmps14
  go_upto_region 1 with (fail)
  generalize w.alloc (.cells XC.toArray 26) = w1 at *
  go_upto_region 2 with (at_builtin; refine wpList_append_own _ (by rfl) _ _ _ (by rfl) (w.heap.size + 1) 22 ii _ 1 8 Try.underlying34 HI.out HZ.out HSz.out HBy.out (by rfl) (by omega) (.slice none 0 0) 0 [] (by rfl) (World.ownsRow_nil _ _ _ _) ⟨w.heap.size, 0, none⟩ 16 16 ((x.r.take 16).map enc64) (by rfl) LL.out (NW.out _ X1.out.k) LO.out (by unfold maxLen; omega) (by omega) X1.out.lt ?_; intro v2 w2 hown hgrow hiff; have G2 := Lib.hid hgrow; have N2 := Lib.hid hown; clear hgrow hown hiff)
  have X2 := Lib.hid (X1.out.keep (keep_grown G2.out) (fun h => by cases h) (fun i _ h => by cases h))
  have c16 := X2.out.cell (by rw [← HXC.out]; exact OK.out.gr (i := 16) (by omega))
  have c17 := X2.out.cell (by rw [← HXC.out]; exact OK.out.gr (i := 17) (by omega))
  have c18 := X2.out.cell (by rw [← HXC.out]; exact OK.out.gr (i := 18) (by omega))
  have c19 := X2.out.cell (by rw [← HXC.out]; exact OK.out.gr (i := 19) (by omega))
  have c20 := X2.out.cell (by rw [← HXC.out]; exact OK.out.gr (i := 20) (by omega))
  have c21 := X2.out.cell (by rw [← HXC.out]; exact OK.out.gr (i := 21) (by omega))
  have c22 := X2.out.cell (by rw [← HXC.out]; exact OK.out.g22)
  have c23 := X2.out.cell (by rw [← HXC.out]; exact OK.out.g23)
  have c24 := X2.out.cell (by rw [← HXC.out]; exact OK.out.g24)
  have c25 := X2.out.cell (by rw [← HXC.out]; exact OK.out.g25)
  have b23 : 0 ≤ (x.st : Int) := by omega
  have b24 : 0 ≤ (x.pe : Int) := by omega
  have b25 : 0 ≤ (x.ma : Int) := by omega
  have m23 : (x.st : Int) < 256 := by have := OK.out.s; omega
  have m24 : (x.pe : Int) < 4294967296 := by have := OK.out.p; omega
  have m25 : (x.ma : Int) < 4294967296 := by have := OK.out.m; omega
  have e26 : Hid ((packL x).map enc64 = (x.r.take 16).map enc64 ++ [.int .u64 ((x.r.getD 16 0 : Nat) : Int), .int .u64 ((x.r.getD 17 0 : Nat) : Int), .int .u64 ((x.r.getD 18 0 : Nat) : Int), .int .u64 ((x.r.getD 19 0 : Nat) : Int), .int .u64 ((x.r.getD 20 0 : Nat) : Int), .int .u64 ((x.r.getD 21 0 : Nat) : Int), .int .u64 ((flagN x.op : Nat) : Int), .int .u64 (x.st : Int), .int .u64 (x.pe : Int), .int .u64 (x.ma : Int)]) := by
    have h6 : (x.r.drop 16).length = 6 := by rw [List.length_drop, HL.out]
    have hd : ∀ i, i < 6 → x.r.getD (16 + i) 0 = (x.r.drop 16).getD i 0 := by
      intro i hi
      rw [List.getD_eq_getElem?_getD, List.getD_eq_getElem?_getD, List.getElem?_drop]
    show (packL x).map enc64 = _
    rw [packL]
    conv => lhs; rw [← List.take_append_drop 16 x.r]
    rw [hd 0 (by omega), hd 1 (by omega), hd 2 (by omega), hd 3 (by omega), hd 4 (by omega), hd 5 (by omega)]
    match x.r.drop 16, h6 with
    | [a1, a2, a3, a4, a5, a6], _ => simp [enc64]
  have w23 : IntKind.u64.wrap (x.st : Int) = (x.st : Int) := wrap_lt (k := .u64) rfl (by have := OK.out.s; show _ < 2 ^ 64; omega)
  have w24 : IntKind.u64.wrap (x.pe : Int) = (x.pe : Int) := wrap_lt (k := .u64) rfl (by have := OK.out.p; show _ < 2 ^ 64; omega)
  have w25 : IntKind.u64.wrap (x.ma : Int) = (x.ma : Int) := wrap_lt (k := .u64) rfl (by have := OK.out.m; show _ < 2 ^ 64; omega)
  generalize ((x.r.getD 16 0 : Nat) : Int) = v16 at *
  generalize ((x.r.getD 17 0 : Nat) : Int) = v17 at *
  generalize ((x.r.getD 18 0 : Nat) : Int) = v18 at *
  generalize ((x.r.getD 19 0 : Nat) : Int) = v19 at *
  generalize ((x.r.getD 20 0 : Nat) : Int) = v20 at *
  generalize ((x.r.getD 21 0 : Nat) : Int) = v21 at *
  generalize (x.st : Int) = v23 at *
  generalize (x.pe : Int) = v24 at *
  generalize (x.ma : Int) = v25 at *
  obtain ⟨av, capv, rfl⟩ := own_form N2.out
  have FL := Lib.hid (fun W => flag_calls x.op W)
  generalize ((flagN x.op : Nat) : Int) = fl at *
  have AG : (Value.slice av (0 + 16) capv).ownBlock ≠ some w.heap.size := fun h => by have := own_ge N2.out _ h; omega
  have lg := World.block_lt_of_cell? w2 _ c16
  have hsz2 := Lib.hid (Nat.le_trans X1.out.lt G2.out.size)
  generalize w.heap.size = N at *
  go_region_held3 (fun w' => w'.cell? ⟨N, 16, none⟩ = some (.int .u64 v16) ∧ w'.cell? ⟨N, 17, none⟩ = some (.int .u64 v17) ∧ w'.cell? ⟨N, 18, none⟩ = some (.int .u64 v18) ∧ w'.cell? ⟨N, 19, none⟩ = some (.int .u64 v19) ∧ w'.cell? ⟨N, 20, none⟩ = some (.int .u64 v20) ∧ w'.cell? ⟨N, 21, none⟩ = some (.int .u64 v21) ∧ w'.cell? ⟨N, 22, none⟩ = some (.bool x.op) ∧ w'.cell? ⟨N, 23, none⟩ = some (.int .u8 v23) ∧ w'.cell? ⟨N, 24, none⟩ = some (.int .u32 v24) ∧ w'.cell? ⟨N, 25, none⟩ = some (.int .u32 v25))
    (first
      | go_keep
      | (go_split_ands
         refine ⟨?_, ?_, ?_, ?_, ?_, ?_, ?_, ?_, ?_, ?_⟩
         all_goals (rw [hgrow.cell_far _ (by simp; omega) (Ne.symm AG)]; assumption)))
    (first | (go_at_call 22; refine (FL.out _).mono ?_; rintro e wf ⟨rfl, rfl⟩) | (refine step_append_lies _ (by rfl) _ _ _ (by rfl) (N + 1) 22 ii _ 1 8 Try.underlying34 HI.out HZ.out HSz.out HBy.out rfl (by omega) (.slice av (0 + 16) capv) (0 + 16) _ (by rfl) ((N2.out.alloc _).drew) ⟨w2.heap.size, 0, none⟩ 10 10 [.int .u64 v16, .int .u64 v17, .int .u64 v18, .int .u64 v19, .int .u64 v20, .int .u64 v21, .int .u64 fl, .int .u64 v23, .int .u64 v24, .int .u64 v25] (by rfl) (by rfl) (World.news_of_block (cs := #[.int .u64 v16, .int .u64 v17, .int .u64 v18, .int .u64 v19, .int .u64 v20, .int .u64 v21, .int .u64 fl, .int .u64 v23, .int .u64 v24, .int .u64 v25]) (t := 22) (fr := (0, 0)) (heap_alloc_new w2 _)) (by simp [Value.oneCell']) (by omega) (by unfold maxLen; omega) (by omega) (by simp; have := hsz2.out; omega) (w2.heap.size + 1) (by simp) ?_; intro gg cap w4 hown1 hgrow hat hlt))
  go_wp2
  have GE := own_ge N2.out
  have XN := X2.out.n
  have XB := X2.out.bel
  rw [List.nil_append, ← e26.out] at hown1
  have bel : Below w.heap.size w w4 := below_grown (below_drewN (XB.alloc XB.size _) 1) hgrow (fun k hk => by have := GE k hk; omega)
  have rw4 := row_owns64 hown1
  go_ret
  exact ⟨_, rfl, rw4, bel⟩
def nearS (x : Se) : Se := { x with st := x.st % 3, pe := x.pe % 256, ma := x.ma % 256 }
theorem near_ok {x : Se} (h : x.Ok) : (nearS x).Ok := ⟨h.l, h.w, by have := h.s; show x.st % 3 < 256; omega, by show x.pe % 256 < 2 ^ 32; omega, by show x.ma % 256 < 2 ^ 32; omega⟩
def zeroSe : Se := ⟨List.replicate 22 0, false, 0, 0, 0⟩
theorem zero_ok : zeroSe.Ok := ⟨by decide, by decide, by decide, by decide, by decide⟩
theorem size26 : (Try.prog.info? 26).map (·.size) = some 26 := by kernel_rfl
theorem info_se {x : Se} (h : x.Ok) : (Try.prog.info? 26).map (·.size) = some x.cells.length := by rw [h.len]; exact size26
theorem zero_cells : zeroSe.cells = [.int .u64 0, .int .u64 0, .int .u64 0, .int .u64 0, .int .u64 0, .int .u64 0, .int .u64 0, .int .u64 0, .int .u64 0, .int .u64 0, .int .u64 0, .int .u64 0, .int .u64 0, .int .u64 0, .int .u64 0, .int .u64 0, .int .u64 0, .int .u64 0, .int .u64 0, .int .u64 0, .int .u64 0, .int .u64 0, .bool false, .int .u8 0, .int .u32 0, .int .u32 0] := by kernel_rfl
set_option maxHeartbeats 1000000 in
theorem near_calls (x : Se) (h : x.Ok) (w : World) :
    Calls Try.prog 9 #[.agg x.cells.toArray] w fun e w' => e = .returned (.agg (nearS x).cells.toArray) ∧ Below w.heap.size w w' := by
  have HI := Lib.hid (info_se (near_ok h))
  have HL := Lib.hid (near_ok h).len
  have HO := Lib.hid (Se.one (nearS x))
  have GN : Hid (∀ b w3, Blk w3 b x.cells 26 → Upd b (nearS x).cells 26 w3 (((w3.setCell ⟨b, 23, none⟩ (.int .u8 ((x.st : Int) % 3))).setCell ⟨b, 24, none⟩ (.int .u32 ((x.pe : Int) % 256))).setCell ⟨b, 25, none⟩ (.int .u32 ((x.ma : Int) % 256)))) := by
    intro b w3 hb
    have k1 : ({ x with st := x.st % 3 } : Se).Ok := ⟨h.l, h.w, by have := h.s; show x.st % 3 < 256; omega, h.p, h.m⟩
    have k2 : ({ x with st := x.st % 3, pe := x.pe % 256 } : Se).Ok := ⟨h.l, h.w, k1.s, by show x.pe % 256 < 2 ^ 32; omega, h.m⟩
    have e1 := h.s23 (x.st % 3)
    have e2 := k1.s24 (x.pe % 256)
    have e3 := k2.s25 (x.ma % 256)
    have u := (((Upd.same hb).set 23 (.int .u8 ((x.st % 3 : Nat) : Int))).set 24 (.int .u32 ((x.pe % 256 : Nat) : Int))).set 25 (.int .u32 ((x.ma % 256 : Nat) : Int))
    rw [e1, e2, e3] at u
    exact u
  have G23 := Lib.hid h.g23
  have G24 := Lib.hid h.g24
  have G25 := Lib.hid h.g25
  have h0 : 0 ≤ (x.st : Int) := by omega
  have h1 : 0 ≤ (x.pe : Int) := by omega
  have h2 : 0 ≤ (x.ma : Int) := by omega
  have HC := Lib.hid h.len
  generalize (nearS x).cells = NC at *
  generalize (x.st : Int) = st at *
  generalize (x.pe : Int) = pe at *
  generalize (x.ma : Int) = ma at *
  generalize x.cells = XC at *
  go_enter Try.func9, Try.ntmps9
  go_upto_region 1 with (fail)
  have h3b := blocks2 w XC.toArray #[.int .u64 0, .int .u64 0, .int .u64 0, .int .u64 0, .int .u64 0, .int .u64 0, .int .u64 0, .int .u64 0, .int .u64 0, .int .u64 0, .int .u64 0, .int .u64 0, .int .u64 0, .int .u64 0, .int .u64 0, .int .u64 0, .int .u64 0, .int .u64 0, .int .u64 0, .int .u64 0, .int .u64 0, .int .u64 0, .bool false, .int .u8 0, .int .u32 0, .int .u32 0] 26 26
  generalize (w.alloc (.cells _ 26)).alloc _ = w3 at *
  obtain ⟨hB, hsz, b1, b2⟩ := h3b w3 rfl
  clear h3b
  have b1' : Blk w3 w.heap.size XC 26 := by simpa using b1
  have c23 := b1'.cellAt G23.out
  have c24 := b1'.cellAt G24.out
  have c25 := b1'.cellAt G25.out
  have f23 := b1'.unfrozen 23
  have f24 := b1'.unfrozen 24
  have f25 := b1'.unfrozen 25
  have U1 := Lib.hid (GN.out _ _ b1')
  have hl2 := b2.lt
  have B2 := Lib.hid b2
  have XB := Lib.hid hB
  clear b1 b1' b2 hB hsz
  go_upto_region 4 with (fail)
  generalize ((w3.setCell _ (.int .u8 (st % 3))).setCell _ (.int .u32 (pe % 256))).setCell _ (.int .u32 (ma % 256)) = w4 at *
  have B4 := Lib.hid (U1.out.blk B2.out (by omega))
  go_wp2_with (first | refine wpList_load_mid rfl 26 (.tmp 1) rfl w.heap.size 0 rfl NC _ (range_all U1.out.c) Try.underlying26 rfl HI.out ?_ | refine wpList_store_mid rfl 26 (.tmp 2) (.tmp 15) rfl (w.heap.size + 1) 0 NC.toArray rfl rfl (there_of_blk B4.out ?s1) ?s2 ?s3 ?_)
  case s1 => have := HL.out; simp; omega
  case s2 => simpa using HI.out
  case s3 => first | exact HO.out | exact all_oneCell_toArray HO.out
  have hbz := blk_setAll B4.out (vs := NC) (by have := HL.out; simp; omega)
  refine bodyPost_ret (v := .agg NC.toArray) (results_cell_row Try.results9 _ _ (w.heap.size + 1) _ NC.toArray _ _ rfl hbz Try.underlying26 rfl (by simpa using HI.out)) rfl ⟨rfl, ?_⟩
  exact below_setCells (U1.out.below XB.out (Nat.le_refl _)) (by omega) 0 _
end Go.Proofs.Ythgccppclkkohaa.Walks
