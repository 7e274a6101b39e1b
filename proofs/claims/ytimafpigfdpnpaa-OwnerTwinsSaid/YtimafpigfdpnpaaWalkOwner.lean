/- Walks through the functions of the statement, and the statement over them: each contract says what the call answers and that nothing else changes. -/
import Derived.Test.YtimafpigfdpnpaaProg
import Derived.Test.YtimafpigfdpnpaaBits
import Derived.Test.YtimafpigfdpnpaaHeap
import Derived.Test.YtimafpigfdpnpaaAid
import Derived.Lib.Hide
import Derived.Test.YtimafpigfdpnpaaArr
import Derived.Test.YtimafpigfdpnpaaEql
import Derived.WalkKit
import Derived.WalkSpells
import Derived.WalkLawsBesides
import Derived.Deep.QuietTactic
import Derived.BigQuiet
import Derived.Deep.RegionHeld3
import Derived.Deep.DeepCutAuto
import Derived.Deep.CutBlock
import Derived.Lib.SlBytesConst
import Derived.StillTailTactics
import Derived.Laws.MakeOwn
import Derived.RegionTactic
namespace Go.Proofs.Ytimafpigfdpnpaa.Walks
set_option linter.unusedVariables false
set_option linter.unusedSimpArgs false
open Go.RowKit Go.Proofs.Ytimafpigfdpnpaa.Bits Go.Proofs.Ytimafpigfdpnpaa.Heap Go.Proofs.Ytimafpigfdpnpaa.Aid Go.Proofs.Ytimafpigfdpnpaa.Arr Go.Proofs.Ytimafpigfdpnpaa.Eql

theorem ret_int {k : IntKind} {a b : Int} (h : a = b) : Ending.returned (.int k a) = .returned (.int k b) := by rw [h]
theorem ret_bool {a b : Bool} (h : a = b) : Ending.returned (.bool a) = .returned (.bool b) := by rw [h]
/-- The block that holds the instruction, in any later world. -/
structure Inv (w : World) (cs : List Value) (t : TypeId) (w' : World) : Prop where
  b : Below w.heap.size w w'
  k : Blk w' w.heap.size cs t
  z : w.heap.size < w'.heap.size
theorem Inv.step {w w1 w2 : World} {cs : List Value} {t : TypeId} (h : Inv w cs t w1) (hb : Below w1.heap.size w1 w2) : Inv w cs t w2 :=
  ⟨h.b.trans (hb.mono h.b.size), h.k.below hb h.z, Nat.lt_of_lt_of_le h.z hb.size⟩
theorem Inv.drewN {w w1 : World} {cs : List Value} {t : TypeId} (h : Inv w cs t w1) (m : Nat) : Inv w cs t (w1.drewN m) :=
  ⟨below_drewN h.b m, h.k.drewN m, h.z⟩
theorem Inv.new (w : World) (A : Array Value) (t : TypeId) : Inv w A.toList t (w.alloc (.cells A t)) :=
  ⟨(Below.refl _ _).alloc (Nat.le_refl _) _, Blk.new w _ _, by simp⟩
theorem Inv.set {w w1 : World} {cs : List Value} {t : TypeId} (h : Inv w cs t w1) (k : Nat) (v : Value) : Inv w (cs.set k v) t (w1.setCell ⟨w.heap.size, k, none⟩ v) :=
  ⟨h.b.setCell (Nat.le_refl _) v, h.k.set k v, by have := h.z; simpa [World.setCell] using this⟩
theorem Inv.setAll {w w1 : World} {cs : List Value} {t : TypeId} (h : Inv w cs t w1) (vs : List Value) (hl : vs.length = cs.length) : Inv w vs t (w1.setCells w.heap.size 0 vs) :=
  ⟨below_setCells h.b (Nat.le_refl _) 0 vs, blk_setAll h.k hl, by have := h.z; rw [size_setCells]; exact this⟩
/-- A call that writes block b alone (of those that were), which then holds these cells. -/
structure Upd (b : Nat) (cs : List Value) (t : TypeId) (w w' : World) : Prop where
  k : Keep (fun i => i = b) w w'
  c : Blk w' b cs t
theorem Upd.same {b : Nat} {cs : List Value} {t : TypeId} {w : World} (h : Blk w b cs t) : Upd b cs t w w := ⟨Keep.refl _ _, h⟩
theorem Upd.drewN {b : Nat} {cs : List Value} {t : TypeId} {w w' : World} (h : Upd b cs t w w') (n : Nat) : Upd b cs t w (w'.drewN n) := ⟨h.k.drewN n, h.c.drewN n⟩
theorem Upd.set {b : Nat} {cs : List Value} {t : TypeId} {w w' : World} (h : Upd b cs t w w') (i : Nat) (v : Value) : Upd b (cs.set i v) t w (w'.setCell ⟨b, i, none⟩ v) :=
  ⟨h.k.setCell (fun _ => rfl) v, h.c.set i v⟩
theorem Upd.setAll {b : Nat} {cs : List Value} {t : TypeId} {w w' : World} (h : Upd b cs t w w') (vs : List Value) (hl : vs.length = cs.length) : Upd b vs t w (w'.setCells b 0 vs) :=
  ⟨keep_setCells h.k (fun _ => rfl) 0 vs, blk_setAll h.c hl⟩
theorem Upd.trans {b : Nat} {cs cs' : List Value} {t t' : TypeId} {w w' w'' : World} (h : Upd b cs t w w') (k : Upd b cs' t' w' w'') : Upd b cs' t' w w'' := ⟨h.k.trans k.k, k.c⟩
theorem Upd.step {b : Nat} {cs : List Value} {t : TypeId} {w w' w'' : World} (h : Upd b cs t w w') (k : Below w'.heap.size w' w'') : Upd b cs t w w'' :=
  ⟨h.k.step (S' := fun _ => False) (Keep.of_below k) (fun _ _ h => h.elim), h.c.below k h.c.lt⟩
theorem Upd.below {b : Nat} {cs : List Value} {t : TypeId} {w0 w w' : World} (h : Upd b cs t w w') (h0 : Below w0.heap.size w0 w) (hb : w0.heap.size ≤ b) : Below w0.heap.size w0 w' :=
  Keep.belowB h0 h.k h0.size (fun i hi e => by omega)
theorem Upd.blk {b b' : Nat} {cs cs' : List Value} {t t' : TypeId} {w w' : World} (h : Upd b cs t w w') (k : Blk w b' cs' t') (hb : b' ≠ b) : Blk w' b' cs' t' := k.keep h.k hb
theorem Inv.upd {w w1 w2 : World} {cs cs' : List Value} {t t' : TypeId} (h : Inv w cs t w1) (u : Upd w.heap.size cs' t' w1 w2) : Inv w cs' t' w2 :=
  ⟨u.below h.b (Nat.le_refl _), u.c, Nat.lt_of_lt_of_le h.z u.k.size⟩
theorem Inv.other {w w1 w2 : World} {cs cs' : List Value} {t t' : TypeId} {b : Nat} (h : Inv w cs t w1) (u : Upd b cs' t' w1 w2) (hb : w.heap.size < b) : Inv w cs t w2 :=
  ⟨u.below h.b (Nat.le_of_lt hb), u.blk h.k (by omega), Nat.lt_of_lt_of_le h.z u.k.size⟩
/-- A block of the call's own (made since w) that holds these cells; nothing that was there at w has changed. -/
structure Own (w : World) (b : Nat) (cs : List Value) (t : TypeId) (w' : World) : Prop where
  bel : Below w.heap.size w w'
  n : w.heap.size ≤ b
  k : Blk w' b cs t
theorem Own.lt {w w1 : World} {b : Nat} {cs : List Value} {t : TypeId} (h : Own w b cs t w1) : b < w1.heap.size := h.k.lt
theorem Own.new {w w1 : World} (hb : Below w.heap.size w w1) (A : Array Value) (t : TypeId) : Own w w1.heap.size A.toList t (w1.alloc (.cells A t)) :=
  ⟨hb.alloc hb.size _, hb.size, Blk.new w1 _ _⟩
theorem Own.newL {w w1 : World} (hb : Below w.heap.size w w1) (cs : List Value) (t : TypeId) : Own w w1.heap.size cs t (w1.alloc (.cells cs.toArray t)) := Own.new hb cs.toArray t
theorem Own.alloc {w w1 : World} {b : Nat} {cs : List Value} {t : TypeId} (h : Own w b cs t w1) (o : Obj) : Own w b cs t (w1.alloc o) := ⟨h.bel.alloc h.bel.size _, h.n, h.k.alloc o⟩
theorem Own.step {w w1 w2 : World} {b : Nat} {cs : List Value} {t : TypeId} (h : Own w b cs t w1) (hb : Below w1.heap.size w1 w2) : Own w b cs t w2 :=
  ⟨h.bel.trans (hb.mono h.bel.size), h.n, h.k.below hb h.lt⟩
theorem Own.drewN {w w1 : World} {b : Nat} {cs : List Value} {t : TypeId} (h : Own w b cs t w1) (m : Nat) : Own w b cs t (w1.drewN m) := ⟨below_drewN h.bel m, h.n, h.k.drewN m⟩
theorem Own.set {w w1 : World} {b : Nat} {cs : List Value} {t : TypeId} (h : Own w b cs t w1) (k : Nat) (v : Value) : Own w b (cs.set k v) t (w1.setCell ⟨b, k, none⟩ v) :=
  ⟨h.bel.setCell h.n v, h.n, h.k.set k v⟩
theorem Own.setAll {w w1 : World} {b : Nat} {cs : List Value} {t : TypeId} (h : Own w b cs t w1) (vs : List Value) (hl : vs.length = cs.length) : Own w b vs t (w1.setCells b 0 vs) :=
  ⟨below_setCells h.bel h.n 0 vs, h.n, blk_setAll h.k hl⟩
theorem Own.setO {w w1 : World} {b b' : Nat} {cs : List Value} {t : TypeId} (h : Own w b cs t w1) (hb : b' ≠ b) (hn : w.heap.size ≤ b') (k : Nat) (v : Value) : Own w b cs t (w1.setCell ⟨b', k, none⟩ v) :=
  ⟨h.bel.setCell hn v, h.n, h.k.other hb v⟩
theorem Own.setAllO {w w1 : World} {b b' : Nat} {cs : List Value} {t : TypeId} (h : Own w b cs t w1) (hb : b' ≠ b) (hn : w.heap.size ≤ b') (o : Nat) (vs : List Value) : Own w b cs t (w1.setCells b' o vs) :=
  ⟨below_setCells h.bel hn o vs, h.n, blk_setOther h.k (Ne.symm hb) o vs⟩
theorem Own.upd {w w1 w2 : World} {b : Nat} {cs cs' : List Value} {t t' : TypeId} (h : Own w b cs t w1) (u : Upd b cs' t' w1 w2) : Own w b cs' t' w2 := ⟨u.below h.bel h.n, h.n, u.c⟩
theorem Own.updO {w w1 w2 : World} {b b' : Nat} {cs cs' : List Value} {t t' : TypeId} (h : Own w b cs t w1) (hb : b' ≠ b) (hn : w.heap.size ≤ b') (u : Upd b' cs' t' w1 w2) : Own w b cs t w2 := ⟨u.below h.bel hn, h.n, u.blk h.k (Ne.symm hb)⟩
theorem Own.cell {w w1 : World} {b : Nat} {cs : List Value} {t : TypeId} (h : Own w b cs t w1) {i : Nat} {v : Value} (hv : cs[i]? = some v) : w1.cell? ⟨b, i, none⟩ = some v := h.k.cellAt hv
theorem Own.fro {w w1 : World} {b : Nat} {cs : List Value} {t : TypeId} (h : Own w b cs t w1) (i : Nat) : w1.frozen? ⟨b, i, none⟩ = false := h.k.unfrozen i
theorem Own.all {w w1 : World} {b : Nat} {cs : List Value} {t : TypeId} (h : Own w b cs t w1) : w1.rangeAt b 0 cs := range_all h.k
theorem Own.there {w w1 : World} {b : Nat} {cs : List Value} {t : TypeId} (h : Own w b cs t w1) {n : Nat} (hn : n ≤ cs.length) : w1.there b 0 n := there_of_blk h.k (by omega)
theorem Own.drew' {w w1 w2 : World} {b : Nat} {cs : List Value} {t : TypeId} (h : Own w b cs t w1) (hm : ∃ n, w2 = w1.drewN n) : Own w b cs t w2 := by
  obtain ⟨n, rfl⟩ := hm
  exact h.drewN n
theorem Own.store {P : Program} {w w1 : World} {b : Nat} {cs : List Value} {t : TypeId} (h : Own w b cs t w1) (vs : List Value) (hl : vs.length = cs.length) (h1 : ∀ v ∈ vs, v.oneCell' = true) :
    (storeCells ⟨b, 0, none⟩ vs).run P w1 = .ok () (w1.setCells b 0 vs) := by
  have ht := h.there (n := vs.length) (by omega)
  exact run_storeCells_cells (P := P) b 0 vs 0 w1 (fun j hj => by simpa using (ht j hj).1) (fun j hj => by simpa using (ht j hj).2) h1
/-- A quiet call behind quiet regions. -/
theorem quiet_add_left {P : Program} {f : FuncId} {args : Array Value} {w : World} {a n : Nat} {v : Value}
    (h : Calls P f args (w.drewN (a + n)) fun e w' => e = .returned v ∧ w.drewN (a + n) = w') :
    Calls P f args (w.drewN (a + n)) fun e w'' => e = .returned v ∧ ∃ m, w'' = w.drewN (a + m) :=
  h.mono fun _ _ ⟨he, hm⟩ => ⟨he, n, hm.symm⟩
theorem quiet_left {P : Program} {f : FuncId} {args : Array Value} {w : World} {n : Nat} {v : Value}
    (h : Calls P f args (w.drewN n) fun e w' => e = .returned v ∧ w.drewN n = w') : Calls P f args (w.drewN n) fun e w'' => e = .returned v ∧ ∃ m, w'' = w.drewN m :=
  h.mono fun _ _ ⟨he, hm⟩ => ⟨he, n, hm.symm⟩
theorem quiet_add {P : Program} {f : FuncId} {args : Array Value} {w : World} {a n : Nat} {v : Value}
    (h : Calls P f args (w.drewN (a + n)) fun e w' => e = .returned v ∧ ∃ m, w' = (w.drewN (a + n)).drewN m) :
    Calls P f args (w.drewN (a + n)) fun e w'' => e = .returned v ∧ ∃ m, w'' = w.drewN (a + m) :=
  h.mono fun _ _ ⟨he, m, hm⟩ => ⟨he, n + m, by rw [hm, World.drewN_drewN, Nat.add_assoc]⟩
/-- Elements of several cells, in a row. -/
def flat {α : Type} (enc : α → List Value) : List α → List Value
  | [] => []
  | x :: r => enc x ++ flat enc r
section
variable {α : Type} {enc : α → List Value} {s : Nat}
theorem flat_length (hs : ∀ x, (enc x).length = s) (l : List α) : (flat enc l).length = l.length * s := by
  induction l with
  | nil => simp [flat]
  | cons x r ih => rw [flat, List.length_append, hs, ih, List.length_cons, Nat.succ_mul, Nat.add_comm]
theorem flat_append (a b : List α) : flat enc (a ++ b) = flat enc a ++ flat enc b := by
  induction a with
  | nil => rfl
  | cons x r ih => rw [List.cons_append, flat, flat, ih, List.append_assoc]
theorem flat_drop (hs : ∀ x, (enc x).length = s) (l : List α) (i : Nat) : (flat enc l).drop (i * s) = flat enc (l.drop i) := by
  induction l generalizing i with
  | nil => simp [flat]
  | cons x r ih =>
    cases i with
    | zero => simp
    | succ i =>
      have e : (i + 1) * s = (enc x).length + i * s := by rw [hs, Nat.succ_mul, Nat.add_comm]
      rw [flat, e, List.drop_append, List.drop_of_length_le (by omega), List.nil_append, Nat.add_sub_cancel_left, ih]
      rfl
theorem flat_take (hs : ∀ x, (enc x).length = s) (l : List α) (i : Nat) : (flat enc l).take (i * s) = flat enc (l.take i) := by
  induction l generalizing i with
  | nil => simp [flat]
  | cons x r ih =>
    cases i with
    | zero => simp [flat]
    | succ i =>
      have e : (i + 1) * s = (enc x).length + i * s := by rw [hs, Nat.succ_mul, Nat.add_comm]
      rw [flat, e, List.take_append, List.take_of_length_le (by omega), Nat.add_sub_cancel_left, ih]
      rfl
theorem some_lt {l : List α} {i : Nat} {x : α} (h : l[i]? = some x) : i < l.length := by
  rcases Nat.lt_or_ge i l.length with h1 | h1
  · exact h1
  · rw [List.getElem?_eq_none h1] at h; cases h
theorem flat_seg (hs : ∀ x, (enc x).length = s) {l : List α} {i : Nat} {x : α} (h : l[i]? = some x) : ((flat enc l).drop (i * s)).take s = enc x := by
  rw [flat_drop hs]
  have hi := some_lt h
  rw [List.drop_eq_getElem_cons hi, flat]
  rw [List.getElem?_eq_getElem hi] at h
  rw [Option.some.inj h, ← hs x, List.take_left]
theorem flat_get (hs : ∀ x, (enc x).length = s) {l : List α} {i : Nat} {x : α} (h : l[i]? = some x) {j : Nat} (hj : j < s) : (flat enc l)[i * s + j]? = (enc x)[j]? := by
  rw [← flat_seg hs h, List.getElem?_take, if_pos hj, List.getElem?_drop]
theorem flat_put (hs : ∀ x, (enc x).length = s) {l : List α} {i : Nat} {x y : α} (h : l[i]? = some x) {j : Nat} (hj : j < s) {v : Value} (hy : (enc x).set j v = enc y) : (flat enc l).set (i * s + j) v = flat enc (l.set i y) := by
  induction l generalizing i with
  | nil => simp at h
  | cons z r ih =>
    cases i with
    | zero =>
      simp only [List.getElem?_cons_zero, Option.some.injEq] at h
      subst h
      rw [Nat.zero_mul, Nat.zero_add, List.set_cons_zero, flat, flat, List.set_append_left _ _ (by rw [hs]; exact hj), hy]
    | succ i =>
      have h' : r[i]? = some x := by simpa using h
      rw [List.set_cons_succ, flat, flat, ← ih h', List.set_append_right _ _ (by rw [hs, Nat.succ_mul]; omega), hs, show (i + 1) * s + j - s = i * s + j by rw [Nat.succ_mul]; omega]
theorem flat_set (hs : ∀ x, (enc x).length = s) {l : List α} {i : Nat} (y : α) (hi : i < l.length) : (flat enc l).take (i * s) ++ enc y ++ (flat enc l).drop (i * s + s) = flat enc (l.set i y) := by
  rw [show i * s + s = (i + 1) * s by rw [Nat.succ_mul], flat_take hs, flat_drop hs, List.set_eq_take_append_cons_drop, if_pos hi, flat_append, flat, List.append_assoc]
end
/-- A new slice's cells. -/
theorem made_flat {α : Type} {enc : α → List Value} {s : Nat} (hs : ∀ x, (enc x).length = s) (h0 : 0 < s) (x : α) (n : Nat) : (madeCells (enc x).toArray (n * s)).toList = flat enc (List.replicate n x) := by
  apply List.ext_getElem?
  intro k
  have hl := flat_length hs (List.replicate n x)
  rw [List.length_replicate] at hl
  by_cases hk : k < n * s
  · have hq : k / s < n := (Nat.div_lt_iff_lt_mul h0).2 hk
    have hx : (List.replicate n x)[k / s]? = some x := by simp [hq]
    have hj : k % s < s := Nat.mod_lt _ h0
    have e : k / s * s + k % s = k := by rw [Nat.mul_comm]; exact Nat.div_add_mod k s
    have h1 := flat_get hs hx hj
    rw [e] at h1
    rw [h1]
    have h2 : k % s < (enc x).length := by rw [hs]; exact hj
    rw [List.getElem?_eq_getElem h2]
    unfold madeCells
    simp [hk, hs, h2, getElem!_pos, hj]
  · rw [List.getElem?_eq_none (by unfold madeCells; simp; omega), List.getElem?_eq_none (by omega)]
/-- A frame's row. -/
structure Ow where
  k : Int
  vm : Int
  pg : Int
  sh : Int
deriving DecidableEq
def Ow.cells (x : Ow) : List Value := [.int .u8 x.k, .int .i64 x.vm, .int .i64 x.pg, .int .i64 x.sh]
theorem ow4 : ∀ x : Ow, x.cells.length = 4 := fun _ => rfl
def rows (l : List Ow) : List Value := flat Ow.cells l
/-- A book: its struct, and its rows. -/
structure Bk (w : World) (p q : Nat) (l : List Ow) : Prop where
  hp : ∃ cap, l.length ≤ cap ∧ Blk w p [.slice (some ⟨q, 0, none⟩) l.length cap] 33
  hq : ∃ sp, Blk w q (rows l ++ sp) 35
  ne : p ≠ q
  le : l.length ≤ 512
theorem Bk.c {w : World} {p q : Nat} {l : List Ow} (h : Bk w p q l) : ∃ cap, l.length ≤ cap ∧ w.cell? ⟨p, 0, none⟩ = some (.slice (some ⟨q, 0, none⟩) l.length cap) := by
  obtain ⟨cap, h1, h2⟩ := h.hp
  exact ⟨cap, h1, h2.cellAt rfl⟩
theorem Bk.cj {w : World} {p q : Nat} {l : List Ow} (h : Bk w p q l) {f : Nat} {x : Ow} (hx : l[f]? = some x) {j : Nat} (hj : j < 4) {v : Value} (hv : x.cells[j]? = some v) : w.cell? ⟨q, f * 4 + j, none⟩ = some v := by
  obtain ⟨sp, h2⟩ := h.hq
  have hg := flat_get ow4 hx hj
  refine h2.cellAt ?_
  rw [List.getElem?_append_left, rows, hg, hv]
  rw [rows, flat_length ow4]
  have := some_lt hx
  omega
theorem Bk.c0 {w : World} {p q : Nat} {l : List Ow} (h : Bk w p q l) {f : Nat} {x : Ow} (hx : l[f]? = some x) : w.cell? ⟨q, f * 4, none⟩ = some (.int .u8 x.k) := h.cj hx (j := 0) (by omega) rfl
theorem Bk.c1 {w : World} {p q : Nat} {l : List Ow} (h : Bk w p q l) {f : Nat} {x : Ow} (hx : l[f]? = some x) : w.cell? ⟨q, f * 4 + 1, none⟩ = some (.int .i64 x.vm) := h.cj hx (j := 1) (by omega) rfl
theorem Bk.c2 {w : World} {p q : Nat} {l : List Ow} (h : Bk w p q l) {f : Nat} {x : Ow} (hx : l[f]? = some x) : w.cell? ⟨q, f * 4 + 2, none⟩ = some (.int .i64 x.pg) := h.cj hx (j := 2) (by omega) rfl
theorem Bk.c3 {w : World} {p q : Nat} {l : List Ow} (h : Bk w p q l) {f : Nat} {x : Ow} (hx : l[f]? = some x) : w.cell? ⟨q, f * 4 + 3, none⟩ = some (.int .i64 x.sh) := h.cj hx (j := 3) (by omega) rfl
theorem Bk.fro {w : World} {p q : Nat} {l : List Ow} (h : Bk w p q l) (i : Nat) : w.frozen? ⟨q, i, none⟩ = false := by
  obtain ⟨sp, h2⟩ := h.hq
  exact h2.unfrozen i
/-- What a call leaves of a book. -/
structure Bu (p q : Nat) (l : List Ow) (w w' : World) : Prop where
  k : Keep (fun i => i = q) w w'
  b : Bk w' p q l
theorem Bu.same {w : World} {p q : Nat} {l : List Ow} (h : Bk w p q l) : Bu p q l w w := ⟨Keep.refl _ _, h⟩
theorem Bu.trans {w w' w'' : World} {p q : Nat} {l l' : List Ow} (h : Bu p q l w w') (k : Bu p q l' w' w'') : Bu p q l' w w'' := ⟨h.k.trans k.k, k.b⟩
theorem ow_put {w : World} {p q : Nat} {l : List Ow} (h : Bk w p q l) {f : Nat} {x y : Ow} (hx : l[f]? = some x) {j : Nat} (hj : j < 4) {v : Value} (hy : x.cells.set j v = y.cells) : Bu p q (l.set f y) w (w.setCell ⟨q, f * 4 + j, none⟩ v) := by
  have hf := some_lt hx
  refine ⟨(Keep.refl (fun i => i = q) w).setCell (p := ⟨q, f * 4 + j, none⟩) (fun _ => rfl) v, ?_, ?_, h.ne, by rw [List.length_set]; exact h.le⟩
  · obtain ⟨cap, h1, h2⟩ := h.hp
    refine ⟨cap, by rw [List.length_set]; exact h1, ?_⟩
    rw [List.length_set]
    exact h2.other (Ne.symm h.ne) v
  · obtain ⟨sp, h2⟩ := h.hq
    have := h2.set (f * 4 + j) v
    rw [rows, List.set_append_left _ _ (by rw [flat_length ow4]; omega), flat_put ow4 hx hj hy] at this
    exact ⟨sp, this⟩
theorem ow_all {w : World} {p q : Nat} {l : List Ow} (h : Bk w p q l) {f : Nat} {x : Ow} (y : Ow) (hx : l[f]? = some x) :
    Bu p q (l.set f y) w ((((w.setCell ⟨q, f * 4, none⟩ (.int .u8 y.k)).setCell ⟨q, f * 4 + 1, none⟩ (.int .i64 y.vm)).setCell ⟨q, f * 4 + 2, none⟩ (.int .i64 y.pg)).setCell ⟨q, f * 4 + 3, none⟩ (.int .i64 y.sh)) := by
  have hf := some_lt hx
  have g : ∀ z : Ow, (l.set f z)[f]? = some z := fun z => by simp [hf]
  have u1 := ow_put h hx (y := ⟨y.k, x.vm, x.pg, x.sh⟩) (j := 0) (by omega) (v := .int .u8 y.k) rfl
  have u2 := ow_put u1.b (f := f) (g _) (y := ⟨y.k, y.vm, x.pg, x.sh⟩) (j := 1) (by omega) (v := .int .i64 y.vm) rfl
  rw [List.set_set] at u2
  have u3 := ow_put u2.b (f := f) (g _) (y := ⟨y.k, y.vm, y.pg, x.sh⟩) (j := 2) (by omega) (v := .int .i64 y.pg) rfl
  rw [List.set_set] at u3
  have u4 := ow_put u3.b (f := f) (g _) (y := y) (j := 3) (by omega) (v := .int .i64 y.sh) rfl
  rw [List.set_set] at u4
  exact ((u1.trans u2).trans u3).trans u4
set_option maxHeartbeats 1000000 in
theorem row_nil (f : Int) (w : World) : Calls Try.prog 19 #[.pointer none, .int .i64 f] w fun e w' => e = .returned (.tuple #[.pointer none, .int .i64 1]) ∧ w = w' := by
  go_enter Try.func19, Try.ntmps19
  go_wp2
  go_ret2
  exact ⟨rfl, rfl⟩
set_option maxHeartbeats 1000000 in
theorem row_bad {p q : Nat} {l : List Ow} {w : World} (h : Bk w p q l) (f : Int) (hf : f < 0 ∨ (l.length : Int) ≤ f) : Calls Try.prog 19 #[.pointer (some ⟨p, 0, none⟩), .int .i64 f] w fun e w' => e = .returned (.tuple #[.pointer none, .int .i64 1]) ∧ w = w' := by
  obtain ⟨cap, hcap, c⟩ := h.c
  have hle := h.le
  by_cases h0 : f < 0
  · have hd : decide (f < 0) = true := decide_eq_true h0
    go_enter Try.func19, Try.ntmps19
    go_wp2
    go_ret2
    exact ⟨rfl, rfl⟩
  · have hd : decide (f < 0) = false := decide_eq_false h0
    have hd2 : decide ((l.length : Int) ≤ f) = true := decide_eq_true (by omega)
    go_enter Try.func19, Try.ntmps19
    go_wp2
    go_ret2
    exact ⟨rfl, rfl⟩
set_option maxHeartbeats 1000000 in
theorem row_ok {p q : Nat} {l : List Ow} {w : World} (h : Bk w p q l) (f : Nat) (hf : f < l.length) : Calls Try.prog 19 #[.pointer (some ⟨p, 0, none⟩), .int .i64 (f : Int)] w fun e w' => e = .returned (.tuple #[.pointer (some ⟨q, f * 4, none⟩), .int .i64 0]) ∧ w = w' := by
  obtain ⟨cap, hcap, c⟩ := h.c
  have hle := h.le
  have hd : decide ((f : Int) < 0) = false := decide_eq_false (by omega)
  have hd2 : decide (l.length ≤ f) = false := decide_eq_false (by omega)
  go_enter Try.func19, Try.ntmps19
  go_wp2
  go_ret2
  exact ⟨rfl, rfl⟩
set_option maxHeartbeats 1000000 in
theorem donate_fail (P : Value) (f n pg : Int) (w : World) (hr : Calls Try.prog 19 #[P, .int .i64 f] w fun e w' => e = .returned (.tuple #[.pointer none, .int .i64 1]) ∧ w = w') :
    Calls Try.prog 9 #[P, .int .i64 f, .int .i64 n, .int .i64 pg] w fun e w' => e = .returned (.int .i64 1) ∧ w = w' := by
  have HR := Lib.hid hr
  clear hr
  go_enter Try.func9, Try.ntmps9
  go_wp2_with (go_at_call 19; refine HR.out.mono ?_; rintro e w' ⟨rfl, rfl⟩)
  go_ret
  exact ⟨rfl, rfl⟩
set_option maxHeartbeats 1000000 in
theorem keep_fail (P : Value) (f n : Int) (w : World) (hr : Calls Try.prog 19 #[P, .int .i64 f] w fun e w' => e = .returned (.tuple #[.pointer none, .int .i64 1]) ∧ w = w') :
    Calls Try.prog 16 #[P, .int .i64 f, .int .i64 n] w fun e w' => e = .returned (.int .i64 1) ∧ w = w' := by
  have HR := Lib.hid hr
  clear hr
  go_enter Try.func16, Try.ntmps16
  go_wp2_with (go_at_call 19; refine HR.out.mono ?_; rintro e w' ⟨rfl, rfl⟩)
  go_ret
  exact ⟨rfl, rfl⟩
set_option maxHeartbeats 1000000 in
theorem release_fail (P : Value) (f : Int) (w : World) (hr : Calls Try.prog 19 #[P, .int .i64 f] w fun e w' => e = .returned (.tuple #[.pointer none, .int .i64 1]) ∧ w = w') :
    Calls Try.prog 18 #[P, .int .i64 f] w fun e w' => e = .returned (.int .i64 1) ∧ w = w' := by
  have HR := Lib.hid hr
  clear hr
  go_enter Try.func18, Try.ntmps18
  go_wp2_with (go_at_call 19; refine HR.out.mono ?_; rintro e w' ⟨rfl, rfl⟩)
  go_ret
  exact ⟨rfl, rfl⟩
set_option maxHeartbeats 1000000 in
theorem share_fail (P : Value) (f n : Int) (er : Int) (he : (er != 0) = true) (w : World) (hr : Calls Try.prog 21 #[P, .int .i64 f, .int .i64 n] w fun e w' => e = .returned (.tuple #[.pointer none, .int .i64 er]) ∧ w = w') :
    Calls Try.prog 10 #[P, .int .i64 f, .int .i64 n] w fun e w' => e = .returned (.int .i64 er) ∧ w = w' := by
  have HR := Lib.hid hr
  clear hr
  have he2 : (er == 0) = false := by simpa using he
  go_enter Try.func10, Try.ntmps10
  go_wp2_with (go_at_call 21; refine HR.out.mono ?_; rintro e w' ⟨rfl, rfl⟩)
  go_ret
  exact ⟨rfl, rfl⟩
set_option maxHeartbeats 1000000 in
theorem unshare_fail (P : Value) (f n : Int) (er : Int) (he : (er != 0) = true) (w : World) (hr : Calls Try.prog 21 #[P, .int .i64 f, .int .i64 n] w fun e w' => e = .returned (.tuple #[.pointer none, .int .i64 er]) ∧ w = w') :
    Calls Try.prog 12 #[P, .int .i64 f, .int .i64 n] w fun e w' => e = .returned (.int .i64 er) ∧ w = w' := by
  have HR := Lib.hid hr
  clear hr
  have he2 : (er == 0) = false := by simpa using he
  go_enter Try.func12, Try.ntmps12
  go_wp2_with (go_at_call 21; refine HR.out.mono ?_; rintro e w' ⟨rfl, rfl⟩)
  go_ret
  exact ⟨rfl, rfl⟩
set_option maxHeartbeats 1000000 in
theorem reclaim_fail (P : Value) (f n : Int) (er : Int) (he : (er != 0) = true) (w : World) (hr : Calls Try.prog 21 #[P, .int .i64 f, .int .i64 n] w fun e w' => e = .returned (.tuple #[.pointer none, .int .i64 er]) ∧ w = w') :
    Calls Try.prog 11 #[P, .int .i64 f, .int .i64 n] w fun e w' => e = .returned (.int .i64 er) ∧ w = w' := by
  have HR := Lib.hid hr
  clear hr
  have he2 : (er == 0) = false := by simpa using he
  go_enter Try.func11, Try.ntmps11
  go_wp2_with (go_at_call 21; refine HR.out.mono ?_; rintro e w' ⟨rfl, rfl⟩)
  go_ret
  exact ⟨rfl, rfl⟩
set_option maxHeartbeats 1000000 in
theorem mine_fail (P : Value) (f n : Int) (w : World) (hr : Calls Try.prog 19 #[P, .int .i64 f] w fun e w' => e = .returned (.tuple #[.pointer none, .int .i64 1]) ∧ w = w') :
    Calls Try.prog 21 #[P, .int .i64 f, .int .i64 n] w fun e w' => e = .returned (.tuple #[.pointer none, .int .i64 1]) ∧ w = w' := by
  have HR := Lib.hid hr
  clear hr
  go_enter Try.func21, Try.ntmps21
  go_wp2_with (go_at_call 19; refine HR.out.mono ?_; rintro e w' ⟨rfl, rfl⟩)
  go_ret2
  exact ⟨rfl, rfl⟩
def vmB (n pg : Int) : Bool := decide (0 ≤ n ∧ n < 6 ∧ 0 ≤ pg ∧ pg < 32)
set_option maxHeartbeats 1000000 in
theorem vm_calls (n pg : Int) (w : World) : Calls Try.prog 20 #[.int .i64 n, .int .i64 pg] w fun e w' => e = .returned (.bool (vmB n pg)) ∧ w = w' := by
  go_enter Try.func20, Try.ntmps20
  go_wp2
  all_goals
    go_ret
    refine ⟨ret_bool ?_, rfl⟩
    unfold vmB
    rw [Bool.eq_iff_iff]
    simp
    try omega
def donE (x : Ow) (n pg : Int) : Int := if vmB n pg = true then (if x.k = 0 then 0 else 8) else 1
def donL (l : List Ow) (f : Nat) (x : Ow) (n pg : Int) : List Ow := if vmB n pg = true ∧ x.k = 0 then l.set f ⟨3, n, pg, 0⟩ else l
set_option maxHeartbeats 1000000 in
theorem donate_calls {p q : Nat} {l : List Ow} {w : World} (h : Bk w p q l) (f : Nat) {x : Ow} (hx : l[f]? = some x) (n pg : Int) :
    Calls Try.prog 9 #[.pointer (some ⟨p, 0, none⟩), .int .i64 (f : Int), .int .i64 n, .int .i64 pg] w fun e w' => e = .returned (.int .i64 (donE x n pg)) ∧ Bu p q (donL l f x n pg) w w' := by
  have HR := Lib.hid (row_ok h f (some_lt hx))
  have HV := Lib.hid (fun W => vm_calls n pg W)
  have HE := Lib.hid (show donE x n pg = if vmB n pg = true then (if x.k = 0 then 0 else 8) else 1 from rfl)
  have HL := Lib.hid (show donL l f x n pg = if vmB n pg = true ∧ x.k = 0 then l.set f ⟨3, n, pg, 0⟩ else l from rfl)
  have HU := Lib.hid (Bu.same h)
  have HA := Lib.hid (ow_all h ⟨3, n, pg, 0⟩ hx)
  generalize donE x n pg = er at *
  generalize donL l f x n pg = l' at *
  generalize vmB n pg = vb at *
  have c0 := h.c0 hx
  have c1 := h.c1 hx
  have c2 := h.c2 hx
  have c3 := h.c3 hx
  have f0 := h.fro (f * 4)
  have f1 := h.fro (f * 4 + 1)
  have f2 := h.fro (f * 4 + 2)
  have f3 := h.fro (f * 4 + 3)
  clear hx h
  cases vb with
  | false =>
    have e1 : er = 1 := by rw [HE.out]; simp
    have e2 := Lib.hid (show l' = l by rw [HL.out]; simp)
    subst e1
    clear HE HL
    go_enter Try.func9, Try.ntmps9
    go_wp2_with (first | (go_at_call 19; refine HR.out.mono ?_; rintro e w' ⟨rfl, rfl⟩) | (go_at_call 20; refine (HV.out _).mono ?_; rintro e w' ⟨rfl, rfl⟩))
    go_ret
    exact ⟨rfl, by rw [e2.out]; exact HU.out⟩
  | true =>
    by_cases hk : x.k = 0
    · have e1 : er = 0 := by rw [HE.out]; simp [hk]
      have e2 := Lib.hid (show l' = l.set f ⟨3, n, pg, 0⟩ by rw [HL.out]; simp [hk])
      subst e1
      rw [hk] at c0
      clear HE HL hk
      go_enter Try.func9, Try.ntmps9
      go_wp2_with (first | (go_at_call 19; refine HR.out.mono ?_; rintro e w' ⟨rfl, rfl⟩) | (go_at_call 20; refine (HV.out _).mono ?_; rintro e w' ⟨rfl, rfl⟩))
      go_ret
      exact ⟨rfl, by rw [e2.out]; exact HA.out⟩
    · have e1 : er = 8 := by rw [HE.out]; simp [hk]
      have e2 := Lib.hid (show l' = l by rw [HL.out]; simp [hk])
      have hk2 : (x.k != 0) = true := by simpa using hk
      subst e1
      clear HE HL hk
      go_enter Try.func9, Try.ntmps9
      go_wp2_with (first | (go_at_call 19; refine HR.out.mono ?_; rintro e w' ⟨rfl, rfl⟩) | (go_at_call 20; refine (HV.out _).mono ?_; rintro e w' ⟨rfl, rfl⟩))
      go_ret
      exact ⟨rfl, by rw [e2.out]; exact HU.out⟩
def mineB (x : Ow) (n : Int) : Bool := decide (x.k = 3 ∧ x.vm = n)
set_option maxHeartbeats 1000000 in
theorem mine_calls {p q : Nat} {l : List Ow} {w : World} (h : Bk w p q l) (f : Nat) {x : Ow} (hx : l[f]? = some x) (n : Int) (hb : mineB x n = true) :
    Calls Try.prog 21 #[.pointer (some ⟨p, 0, none⟩), .int .i64 (f : Int), .int .i64 n] w fun e w' => e = .returned (.tuple #[.pointer (some ⟨q, f * 4, none⟩), .int .i64 0]) ∧ w = w' := by
  have HR := Lib.hid (row_ok h f (some_lt hx))
  have c0 := h.c0 hx
  have c1 := h.c1 hx
  unfold mineB at hb
  have hb' := of_decide_eq_true hb
  rw [hb'.1] at c0
  rw [hb'.2] at c1
  clear hb hb' hx h
  go_enter Try.func21, Try.ntmps21
  go_wp2_with (go_at_call 19; refine HR.out.mono ?_; rintro e w' ⟨rfl, rfl⟩)
  go_ret2
  exact ⟨rfl, rfl⟩
set_option maxHeartbeats 1000000 in
theorem mine_not {p q : Nat} {l : List Ow} {w : World} (h : Bk w p q l) (f : Nat) {x : Ow} (hx : l[f]? = some x) (n : Int) (hb : mineB x n = false) :
    Calls Try.prog 21 #[.pointer (some ⟨p, 0, none⟩), .int .i64 (f : Int), .int .i64 n] w fun e w' => e = .returned (.tuple #[.pointer none, .int .i64 7]) ∧ w = w' := by
  have HR := Lib.hid (row_ok h f (some_lt hx))
  have c0 := h.c0 hx
  have c1 := h.c1 hx
  unfold mineB at hb
  have hb' := of_decide_eq_false hb
  clear hb hx h
  by_cases h1 : x.k = 3
  · have h2 : ¬ x.vm = n := fun e => hb' ⟨h1, e⟩
    have h3 : (x.vm != n) = true := by simpa using h2
    rw [h1] at c0
    clear hb' h2 h1
    go_enter Try.func21, Try.ntmps21
    go_wp2_with (go_at_call 19; refine HR.out.mono ?_; rintro e w' ⟨rfl, rfl⟩)
    go_ret2
    exact ⟨rfl, rfl⟩
  · have h3 : (x.k != 3) = true := by simpa using h1
    clear hb' h1
    go_enter Try.func21, Try.ntmps21
    go_wp2_with (go_at_call 19; refine HR.out.mono ?_; rintro e w' ⟨rfl, rfl⟩)
    go_ret2
    exact ⟨rfl, rfl⟩
set_option maxHeartbeats 1000000 in
theorem share_calls {p q : Nat} {l : List Ow} {w : World} (h : Bk w p q l) (f : Nat) {x : Ow} (hx : l[f]? = some x) (n : Int) (hb : mineB x n = true) (h0 : 0 ≤ x.sh) (h1 : x.sh < 1000000) :
    Calls Try.prog 10 #[.pointer (some ⟨p, 0, none⟩), .int .i64 (f : Int), .int .i64 n] w fun e w' => e = .returned (.int .i64 0) ∧ Bu p q (l.set f { x with sh := x.sh + 1 }) w w' := by
  have HM := Lib.hid (mine_calls h f hx n hb)
  have HU := Lib.hid (ow_put h hx (y := { x with sh := x.sh + 1 }) (j := 3) (by omega) (v := .int .i64 (x.sh + 1)) rfl)
  have c3 := h.c3 hx
  have f3 := h.fro (f * 4 + 3)
  clear hb hx h
  go_enter Try.func10, Try.ntmps10
  go_wp2_with (go_at_call 21; refine HM.out.mono ?_; rintro e w' ⟨rfl, rfl⟩)
  go_ret
  exact ⟨rfl, HU.out⟩
set_option maxHeartbeats 1000000 in
theorem unshare_none {p q : Nat} {l : List Ow} {w : World} (h : Bk w p q l) (f : Nat) {x : Ow} (hx : l[f]? = some x) (n : Int) (hb : mineB x n = true) (h0 : x.sh = 0) :
    Calls Try.prog 12 #[.pointer (some ⟨p, 0, none⟩), .int .i64 (f : Int), .int .i64 n] w fun e w' => e = .returned (.int .i64 8) ∧ w = w' := by
  have HM := Lib.hid (mine_calls h f hx n hb)
  have c3 := h.c3 hx
  rw [h0] at c3
  clear hb hx h h0
  go_enter Try.func12, Try.ntmps12
  go_wp2_with (go_at_call 21; refine HM.out.mono ?_; rintro e w' ⟨rfl, rfl⟩)
  go_ret
  exact ⟨rfl, rfl⟩
set_option maxHeartbeats 1000000 in
theorem unshare_calls {p q : Nat} {l : List Ow} {w : World} (h : Bk w p q l) (f : Nat) {x : Ow} (hx : l[f]? = some x) (n : Int) (hb : mineB x n = true) (h0 : 0 < x.sh) (h1 : x.sh < 1000000) :
    Calls Try.prog 12 #[.pointer (some ⟨p, 0, none⟩), .int .i64 (f : Int), .int .i64 n] w fun e w' => e = .returned (.int .i64 0) ∧ Bu p q (l.set f { x with sh := x.sh - 1 }) w w' := by
  have HM := Lib.hid (mine_calls h f hx n hb)
  have HU := Lib.hid (ow_put h hx (y := { x with sh := x.sh - 1 }) (j := 3) (by omega) (v := .int .i64 (x.sh - 1)) rfl)
  have c3 := h.c3 hx
  have f3 := h.fro (f * 4 + 3)
  have hz : (x.sh == 0) = false := by simp; omega
  clear hb hx h
  go_enter Try.func12, Try.ntmps12
  go_wp2_with (go_at_call 21; refine HM.out.mono ?_; rintro e w' ⟨rfl, rfl⟩)
  go_ret
  exact ⟨rfl, HU.out⟩
set_option maxHeartbeats 1000000 in
theorem reclaim_used {p q : Nat} {l : List Ow} {w : World} (h : Bk w p q l) (f : Nat) {x : Ow} (hx : l[f]? = some x) (n : Int) (hb : mineB x n = true) (h0 : 0 < x.sh) :
    Calls Try.prog 11 #[.pointer (some ⟨p, 0, none⟩), .int .i64 (f : Int), .int .i64 n] w fun e w' => e = .returned (.int .i64 8) ∧ w = w' := by
  have HM := Lib.hid (mine_calls h f hx n hb)
  have c3 := h.c3 hx
  have hd : decide (0 < x.sh) = true := decide_eq_true h0
  clear hb hx h
  go_enter Try.func11, Try.ntmps11
  go_wp2_with (go_at_call 21; refine HM.out.mono ?_; rintro e w' ⟨rfl, rfl⟩)
  go_ret
  exact ⟨rfl, rfl⟩
set_option maxHeartbeats 1000000 in
theorem reclaim_calls {p q : Nat} {l : List Ow} {w : World} (h : Bk w p q l) (f : Nat) {x : Ow} (hx : l[f]? = some x) (n : Int) (hb : mineB x n = true) (h0 : x.sh = 0) :
    Calls Try.prog 11 #[.pointer (some ⟨p, 0, none⟩), .int .i64 (f : Int), .int .i64 n] w fun e w' => e = .returned (.int .i64 0) ∧ Bu p q (l.set f ⟨0, 0, 0, 0⟩) w w' := by
  have HM := Lib.hid (mine_calls h f hx n hb)
  have HA := Lib.hid (ow_all h ⟨0, 0, 0, 0⟩ hx)
  have c0 := h.c0 hx
  have c1 := h.c1 hx
  have c2 := h.c2 hx
  have c3 := h.c3 hx
  have f0 := h.fro (f * 4)
  have f1 := h.fro (f * 4 + 1)
  have f2 := h.fro (f * 4 + 2)
  have f3 := h.fro (f * 4 + 3)
  rw [h0] at c3
  clear hb hx h h0
  go_enter Try.func11, Try.ntmps11
  go_wp2_with (go_at_call 21; refine HM.out.mono ?_; rintro e w' ⟨rfl, rfl⟩)
  go_ret
  exact ⟨rfl, HA.out⟩
set_option maxHeartbeats 1000000 in
theorem keep_used {p q : Nat} {l : List Ow} {w : World} (h : Bk w p q l) (f : Nat) {x : Ow} (hx : l[f]? = some x) (n : Int) (hn : n < 6) (h0 : x.k ≠ 0) :
    Calls Try.prog 16 #[.pointer (some ⟨p, 0, none⟩), .int .i64 (f : Int), .int .i64 n] w fun e w' => e = .returned (.int .i64 8) ∧ w = w' := by
  have HR := Lib.hid (row_ok h f (some_lt hx))
  have c0 := h.c0 hx
  have hz : (x.k != 0) = true := by simpa using h0
  have hd : decide (6 ≤ n) = false := decide_eq_false (by omega)
  clear hx h h0
  go_enter Try.func16, Try.ntmps16
  go_wp2_with (go_at_call 19; refine HR.out.mono ?_; rintro e w' ⟨rfl, rfl⟩)
  go_ret
  exact ⟨rfl, rfl⟩
set_option maxHeartbeats 1000000 in
theorem get_fail (P : Value) (f : Int) (w : World) (hr : ∀ W, Calls Try.prog 19 #[P, .int .i64 f] W fun e w' => e = .returned (.tuple #[.pointer none, .int .i64 1]) ∧ W = w') :
    Calls Try.prog 15 #[P, .int .i64 f] w fun e w' => e = .returned (.tuple #[.agg #[.int .u8 0, .int .i64 0, .int .i64 0, .int .i64 0], .int .i64 1]) ∧ Below w.heap.size w w' := by
  have HR := Lib.hid hr
  clear hr
  go_enter Try.func15, Try.ntmps15
  go_wp2_with (go_at_call 19; refine (HR.out _).mono ?_; rintro e w' ⟨rfl, rfl⟩)
  exact bodyPost_ret (v := .tuple #[.agg #[.int .u8 0, .int .i64 0, .int .i64 0, .int .i64 0], .int .i64 1]) (by simp [results, Try.results15, go_sem]) rfl ⟨rfl, by first | exact (Below.refl _ _).alloc (Nat.le_refl _) _ | (repeat (first | refine Below.setCell ?_ (Nat.le_refl _) _ | exact (Below.refl _ _).alloc (Nat.le_refl _) _))⟩
theorem row_info : ∃ i, Try.prog.info? 35 = some i ∧ i.zero = some (.agg #[.int .u8 0, .int .i64 0, .int .i64 0, .int .i64 0]) ∧ i.size = 4 ∧ i.bytes = 32 := by
  have h : (Try.prog.info? 35).map (fun i => (i.zero, i.size, i.bytes)) = some (some (.agg #[.int .u8 0, .int .i64 0, .int .i64 0, .int .i64 0]), 4, 32) := by kernel_rfl
  obtain ⟨i, hi, he⟩ := Option.map_eq_some_iff.1 h
  simp only [Prod.mk.injEq] at he
  exact ⟨i, hi, he.1, he.2.1, he.2.2⟩
def freeOw : Ow := ⟨0, 0, 0, 0⟩
theorem make_rows (w : World) (c : Nat) (hc : c ≤ 512) : ∃ w', (Instr.makeSlice 31 (.int .i64 (c : Int)) (.int .i64 (c : Int))).run Try.prog w = .ok (.slice (some ⟨w.heap.size, 0, none⟩) c c) w' ∧ w'.heap.size = w.heap.size + 1 ∧
    Blk w' w.heap.size (rows (List.replicate c freeOw)) 35 ∧ Below w.heap.size w w' := by
  obtain ⟨i, hi, hz, hs, hb⟩ := row_info
  have h := run_makeSlice (P := Try.prog) w 31 35 i _ Try.underlying31 hi hz .i64 .i64 (c : Int) (c : Int) (by omega) (by omega) (by rw [hs, Int.toNat_natCast]; omega) (by rw [hb]; omega) (by omega)
  rw [hs] at h
  simp only [Int.toNat_natCast] at h
  refine ⟨_, h, by simp, ?_, (Below.refl _ _).alloc (Nat.le_refl _) _⟩
  have e := made_flat ow4 (by omega) freeOw c
  have b := Blk.new w (madeCells #[.int .u8 0, .int .i64 0, .int .i64 0, .int .i64 0] (c * 4)) 35
  have e2 : (madeCells #[.int .u8 0, .int .i64 0, .int .i64 0, .int .i64 0] (c * 4)).toList = rows (List.replicate c freeOw) := e
  rw [e2] at b
  exact b
set_option maxHeartbeats 1000000 in
theorem new_calls (n : Int) (w : World) :
    Calls Try.prog 8 #[.int .i64 n] w fun e w' => e = .returned (.pointer (some ⟨w.heap.size + 1, 0, none⟩)) ∧ Bk w' (w.heap.size + 1) w.heap.size (List.replicate (min (max n 0) 512).toNat freeOw) ∧ Below w.heap.size w w' := by
  have main : ∀ c : Nat, c ≤ 512 → (min (max n 0) 512).toNat = c → Calls Try.prog 8 #[.int .i64 n] w fun e w' => e = .returned (.pointer (some ⟨w.heap.size + 1, 0, none⟩)) ∧ Bk w' (w.heap.size + 1) w.heap.size (List.replicate c freeOw) ∧ Below w.heap.size w w' := by
    intro c hc hn
    obtain ⟨w1, hm, hs, hb, hbl⟩ := make_rows w c hc
    have fin : Hid (Bk (w1.alloc (.cells #[.slice (some ⟨w.heap.size, 0, none⟩) c c] (33 : Nat))) (w.heap.size + 1) w.heap.size (List.replicate c freeOw) ∧ Below w.heap.size w (w1.alloc (.cells #[.slice (some ⟨w.heap.size, 0, none⟩) c c] (33 : Nat)))) := by
      have h2 := Blk.new w1 #[.slice (some ⟨w.heap.size, 0, none⟩) c c] 33
      rw [hs] at h2
      refine ⟨⟨⟨c, by simp, by simpa using h2⟩, ⟨[], by rw [List.append_nil]; exact hb.alloc _⟩, by omega, by simpa using hc⟩, hbl.alloc (by omega) _⟩
    have HS := Lib.hid hs
    clear hb hbl hs
    rcases Int.lt_or_le n 0 with h0 | h0
    · have hc0 : c = 0 := by omega
      subst hc0
      have hm0 : (Instr.makeSlice 31 (.int .i64 0) (.int .i64 0)).run Try.prog w = .ok (.slice (some ⟨w.heap.size, 0, none⟩) 0 0) w1 := hm
      clear hm hn
      go_enter Try.func8, Try.ntmps8
      go_wp2
      go_ret
      exact ⟨by rw [HS.out]; rfl, fin.out⟩
    · rcases Int.lt_or_le 512 n with h1 | h1
      · have hc0 : c = 512 := by omega
        subst hc0
        have hm0 : (Instr.makeSlice 31 (.int .i64 512) (.int .i64 512)).run Try.prog w = .ok (.slice (some ⟨w.heap.size, 0, none⟩) 512 512) w1 := hm
        clear hm hn
        go_enter Try.func8, Try.ntmps8
        go_wp2
        go_ret
        exact ⟨by rw [HS.out]; rfl, fin.out⟩
      · obtain ⟨k, rfl⟩ := Int.eq_ofNat_of_zero_le h0
        have hc0 : k = c := by omega
        subst hc0
        clear hn
        go_enter Try.func8, Try.ntmps8
        go_wp2
        go_ret
        exact ⟨by rw [HS.out]; rfl, fin.out⟩
  exact main _ (by omega) rfl
def cntW (kind n : Int) (l : List Ow) : Nat := (l.filter fun x => x.k == kind && (decide (kind < 2) || x.vm == n)).length
theorem cntW_snoc (kind n : Int) (l : List Ow) (x : Ow) : cntW kind n (l ++ [x]) = cntW kind n l + if (x.k == kind && (decide (kind < 2) || x.vm == n)) = true then 1 else 0 := by
  unfold cntW
  rw [List.filter_append, List.length_append]
  by_cases h : (x.k == kind && (decide (kind < 2) || x.vm == n)) = true <;> simp [List.filter_cons, h]
theorem cntW_le (kind n : Int) (l : List Ow) : cntW kind n l ≤ l.length := List.length_filter_le _ _
theorem Bk.below {w w' : World} {p q : Nat} {l : List Ow} (h : Bk w p q l) (hb : Below w.heap.size w w') : Bk w' p q l := by
  obtain ⟨cap, h1, h2⟩ := h.hp
  obtain ⟨sp, h3⟩ := h.hq
  exact ⟨⟨cap, h1, h2.below hb h2.lt⟩, ⟨sp, h3.below hb h3.lt⟩, h.ne, h.le⟩
set_option maxHeartbeats 2000000 in
theorem count_calls {p q : Nat} {l : List Ow} {w : World} (h : Bk w p q l) (kind n : Int) :
    Calls Try.prog 13 #[.pointer (some ⟨p, 0, none⟩), .int .u8 kind, .int .i64 n] w fun e w' => e = .returned (.int .i64 (cntW kind n l)) ∧ Below w.heap.size w w' := by
  obtain ⟨cap, hcap, c⟩ := h.c
  have hle := h.le
  have HK := Lib.hid h
  clear h
  go_enter Try.func13, Try.ntmps13
  go_wp2
  go_loopw [7, 17] (fun t i wr => ∃ k : Nat, k ≤ l.length ∧ i = .int .i64 k ∧ t = .int .i64 (cntW kind n (l.take k)) ∧ Below w.heap.size w wr) (fun _ i _ => l.length - (intOf i).toNat)
  case atStart => exact ⟨0, by omega, rfl, rfl, Below.refl _ _⟩
  case round =>
    obtain ⟨k, hk, rfl, rfl, hb⟩ := hrel
    have HB := Lib.hid hb
    have hle2 := cntW_le kind n (l.take k)
    rw [List.length_take] at hle2
    have hle3 : (cntW kind n (l.take k) : Int) ≤ 512 := by omega
    clear hle2 hb
    by_cases hlt : k < l.length
    · have hx : l[k]? = some l[k] := List.getElem?_eq_getElem hlt
      have HS := Lib.hid (show cntW kind n (l.take (k + 1)) = cntW kind n (l.take k) + if (l[k].k == kind && (decide (kind < 2) || l[k].vm == n)) = true then 1 else 0 by rw [List.take_succ_eq_append_getElem hlt, cntW_snoc])
      have HW := HK.out.below HB.out
      have c0 := HW.c0 hx
      have c1 := HW.c1 hx
      have c2 := HW.c2 hx
      have c3 := HW.c3 hx
      clear hx HW c
      generalize l[k] = x at *
      generalize cntW kind n (l.take k) = t0 at *
      have fin : Hid (∀ A : Array Value, Below w.heap.size w (wr.alloc (.cells A 35))) := fun A => HB.out.alloc HB.out.size _
      by_cases h1 : x.k = kind
      · have e1 : (x.k == kind) = true := by simp [h1]
        by_cases h2 : kind < 2
        · have e2 : decide (kind < 2) = true := decide_eq_true h2
          rw [e1, e2] at HS
          clear h1 h2
          go_wp2
          go_roundw
          case rel => exact ⟨k + 1, by omega, by go_num, by rw [HS.out]; simp, by first | exact fin.out _ | (repeat (first | exact fin.out _ | refine Below.setCell ?_ HB.out.size _))⟩
          case measure => simp [intOf]; omega
        · have e2 : decide (kind < 2) = false := decide_eq_false h2
          by_cases h3 : x.vm = n
          · have e3 : (x.vm == n) = true := by simp [h3]
            rw [e1, e2, e3] at HS
            clear h1 h2 h3
            go_wp2
            go_roundw
            case rel => exact ⟨k + 1, by omega, by go_num, by rw [HS.out]; simp, by first | exact fin.out _ | (repeat (first | exact fin.out _ | refine Below.setCell ?_ HB.out.size _))⟩
            case measure => simp [intOf]; omega
          · have e3 : (x.vm == n) = false := by simp [h3]
            rw [e1, e2, e3] at HS
            clear h1 h2 h3
            go_wp2
            go_roundw
            case rel => exact ⟨k + 1, by omega, by go_num, by rw [HS.out]; simp, by first | exact fin.out _ | (repeat (first | exact fin.out _ | refine Below.setCell ?_ HB.out.size _))⟩
            case measure => simp [intOf]; omega
      · have e1 : (x.k == kind) = false := by simp [h1]
        rw [e1] at HS
        clear h1
        go_wp2
        go_roundw
        case rel => exact ⟨k + 1, by omega, by go_num, by rw [HS.out]; simp, by first | exact fin.out _ | (repeat (first | exact fin.out _ | refine Below.setCell ?_ HB.out.size _))⟩
        case measure => simp [intOf]; omega
    · obtain rfl : k = l.length := by omega
      rw [List.take_of_length_le (Nat.le_refl _)] at *
      go_wp2
      go_ret
      exact ⟨rfl, HB.out⟩
end Go.Proofs.Ytimafpigfdpnpaa.Walks
