/- Walks through the functions of the statement, and the statement over them: each contract says what the call answers and that nothing else changes. -/
import Derived.Test.YtajgiolnajneeaaDoorProg
import Derived.Test.YtajgiolnajneeaaDoorBits
import Derived.Test.YtajgiolnajneeaaDoorHeap
import Derived.Test.YtajgiolnajneeaaDoorAid
import Derived.Lib.Hide
import Derived.Test.YtajgiolnajneeaaDoorArr
import Derived.Test.YtajgiolnajneeaaDoorEql
import Derived.WalkKit
import Derived.WalkSpells
import Derived.WalkLawsBesides
import Derived.Deep.QuietTactic
import Derived.BigQuiet
import Derived.Deep.RegionHeld3
import Derived.Deep.DeepCutAuto
import Derived.Deep.CutBlock
import Derived.Lib.SlBytesConst
import Derived.StillTailTactics
import Derived.RegionTactic
import Derived.Shelf.Spec.TrailingZeros
namespace Go.Proofs.YtajgiolnajneeaaDoor.Walks
set_option linter.unusedVariables false
set_option linter.unusedSimpArgs false
open Go.RowKit Go.Proofs.YtajgiolnajneeaaDoor.Bits Go.Proofs.YtajgiolnajneeaaDoor.Heap Go.Proofs.YtajgiolnajneeaaDoor.Aid Go.Proofs.YtajgiolnajneeaaDoor.Arr Go.Proofs.YtajgiolnajneeaaDoor.Eql

theorem ret_int {k : IntKind} {a b : Int} (h : a = b) : Ending.returned (.int k a) = .returned (.int k b) := by rw [h]
theorem ret_bool {a b : Bool} (h : a = b) : Ending.returned (.bool a) = .returned (.bool b) := by rw [h]
/-- The block that holds the instruction, in any later world. -/
structure Inv (w : World) (cs : List Value) (t : TypeId) (w' : World) : Prop where
  b : Below w.heap.size w w'
  k : Blk w' w.heap.size cs t
  z : w.heap.size < w'.heap.size
theorem Inv.step {w w1 w2 : World} {cs : List Value} {t : TypeId} (h : Inv w cs t w1) (hb : Below w1.heap.size w1 w2) : Inv w cs t w2 :=
  ⟨h.b.trans (hb.mono h.b.size), h.k.below hb h.z, Nat.lt_of_lt_of_le h.z hb.size⟩
theorem Inv.drewN {w w1 : World} {cs : List Value} {t : TypeId} (h : Inv w cs t w1) (m : Nat) : Inv w cs t (w1.drewN m) :=
  ⟨below_drewN h.b m, h.k.drewN m, h.z⟩
theorem Inv.new (w : World) (A : Array Value) (t : TypeId) : Inv w A.toList t (w.alloc (.cells A t)) :=
  ⟨(Below.refl _ _).alloc (Nat.le_refl _) _, Blk.new w _ _, by simp⟩
theorem Inv.set {w w1 : World} {cs : List Value} {t : TypeId} (h : Inv w cs t w1) (k : Nat) (v : Value) : Inv w (cs.set k v) t (w1.setCell ⟨w.heap.size, k, none⟩ v) :=
  ⟨h.b.setCell (Nat.le_refl _) v, h.k.set k v, by have := h.z; simpa [World.setCell] using this⟩
theorem Inv.setAll {w w1 : World} {cs : List Value} {t : TypeId} (h : Inv w cs t w1) (vs : List Value) (hl : vs.length = cs.length) : Inv w vs t (w1.setCells w.heap.size 0 vs) :=
  ⟨below_setCells h.b (Nat.le_refl _) 0 vs, blk_setAll h.k hl, by have := h.z; rw [size_setCells]; exact this⟩
/-- A call that writes block b alone (of those that were), which then holds these cells. -/
structure Upd (b : Nat) (cs : List Value) (t : TypeId) (w w' : World) : Prop where
  k : Keep (fun i => i = b) w w'
  c : Blk w' b cs t
theorem Upd.same {b : Nat} {cs : List Value} {t : TypeId} {w : World} (h : Blk w b cs t) : Upd b cs t w w := ⟨Keep.refl _ _, h⟩
theorem Upd.drewN {b : Nat} {cs : List Value} {t : TypeId} {w w' : World} (h : Upd b cs t w w') (n : Nat) : Upd b cs t w (w'.drewN n) := ⟨h.k.drewN n, h.c.drewN n⟩
theorem Upd.set {b : Nat} {cs : List Value} {t : TypeId} {w w' : World} (h : Upd b cs t w w') (i : Nat) (v : Value) : Upd b (cs.set i v) t w (w'.setCell ⟨b, i, none⟩ v) :=
  ⟨h.k.setCell (fun _ => rfl) v, h.c.set i v⟩
theorem Upd.setAll {b : Nat} {cs : List Value} {t : TypeId} {w w' : World} (h : Upd b cs t w w') (vs : List Value) (hl : vs.length = cs.length) : Upd b vs t w (w'.setCells b 0 vs) :=
  ⟨keep_setCells h.k (fun _ => rfl) 0 vs, blk_setAll h.c hl⟩
theorem Upd.trans {b : Nat} {cs cs' : List Value} {t t' : TypeId} {w w' w'' : World} (h : Upd b cs t w w') (k : Upd b cs' t' w' w'') : Upd b cs' t' w w'' := ⟨h.k.trans k.k, k.c⟩
theorem Upd.step {b : Nat} {cs : List Value} {t : TypeId} {w w' w'' : World} (h : Upd b cs t w w') (k : Below w'.heap.size w' w'') : Upd b cs t w w'' :=
  ⟨h.k.step (S' := fun _ => False) (Keep.of_below k) (fun _ _ h => h.elim), h.c.below k h.c.lt⟩
theorem Upd.below {b : Nat} {cs : List Value} {t : TypeId} {w0 w w' : World} (h : Upd b cs t w w') (h0 : Below w0.heap.size w0 w) (hb : w0.heap.size ≤ b) : Below w0.heap.size w0 w' :=
  Keep.belowB h0 h.k h0.size (fun i hi e => by omega)
theorem Upd.blk {b b' : Nat} {cs cs' : List Value} {t t' : TypeId} {w w' : World} (h : Upd b cs t w w') (k : Blk w b' cs' t') (hb : b' ≠ b) : Blk w' b' cs' t' := k.keep h.k hb
theorem Inv.upd {w w1 w2 : World} {cs cs' : List Value} {t t' : TypeId} (h : Inv w cs t w1) (u : Upd w.heap.size cs' t' w1 w2) : Inv w cs' t' w2 :=
  ⟨u.below h.b (Nat.le_refl _), u.c, Nat.lt_of_lt_of_le h.z u.k.size⟩
theorem Inv.other {w w1 w2 : World} {cs cs' : List Value} {t t' : TypeId} {b : Nat} (h : Inv w cs t w1) (u : Upd b cs' t' w1 w2) (hb : w.heap.size < b) : Inv w cs t w2 :=
  ⟨u.below h.b (Nat.le_of_lt hb), u.blk h.k (by omega), Nat.lt_of_lt_of_le h.z u.k.size⟩
/-- A block of the call's own (made since w) that holds these cells; nothing that was there at w has changed. -/
structure Own (w : World) (b : Nat) (cs : List Value) (t : TypeId) (w' : World) : Prop where
  bel : Below w.heap.size w w'
  n : w.heap.size ≤ b
  k : Blk w' b cs t
theorem Own.lt {w w1 : World} {b : Nat} {cs : List Value} {t : TypeId} (h : Own w b cs t w1) : b < w1.heap.size := h.k.lt
theorem Own.new {w w1 : World} (hb : Below w.heap.size w w1) (A : Array Value) (t : TypeId) : Own w w1.heap.size A.toList t (w1.alloc (.cells A t)) :=
  ⟨hb.alloc hb.size _, hb.size, Blk.new w1 _ _⟩
theorem Own.newL {w w1 : World} (hb : Below w.heap.size w w1) (cs : List Value) (t : TypeId) : Own w w1.heap.size cs t (w1.alloc (.cells cs.toArray t)) := Own.new hb cs.toArray t
theorem Own.alloc {w w1 : World} {b : Nat} {cs : List Value} {t : TypeId} (h : Own w b cs t w1) (o : Obj) : Own w b cs t (w1.alloc o) := ⟨h.bel.alloc h.bel.size _, h.n, h.k.alloc o⟩
theorem Own.step {w w1 w2 : World} {b : Nat} {cs : List Value} {t : TypeId} (h : Own w b cs t w1) (hb : Below w1.heap.size w1 w2) : Own w b cs t w2 :=
  ⟨h.bel.trans (hb.mono h.bel.size), h.n, h.k.below hb h.lt⟩
theorem Own.drewN {w w1 : World} {b : Nat} {cs : List Value} {t : TypeId} (h : Own w b cs t w1) (m : Nat) : Own w b cs t (w1.drewN m) := ⟨below_drewN h.bel m, h.n, h.k.drewN m⟩
theorem Own.set {w w1 : World} {b : Nat} {cs : List Value} {t : TypeId} (h : Own w b cs t w1) (k : Nat) (v : Value) : Own w b (cs.set k v) t (w1.setCell ⟨b, k, none⟩ v) :=
  ⟨h.bel.setCell h.n v, h.n, h.k.set k v⟩
theorem Own.setAll {w w1 : World} {b : Nat} {cs : List Value} {t : TypeId} (h : Own w b cs t w1) (vs : List Value) (hl : vs.length = cs.length) : Own w b vs t (w1.setCells b 0 vs) :=
  ⟨below_setCells h.bel h.n 0 vs, h.n, blk_setAll h.k hl⟩
theorem Own.setO {w w1 : World} {b b' : Nat} {cs : List Value} {t : TypeId} (h : Own w b cs t w1) (hb : b' ≠ b) (hn : w.heap.size ≤ b') (k : Nat) (v : Value) : Own w b cs t (w1.setCell ⟨b', k, none⟩ v) :=
  ⟨h.bel.setCell hn v, h.n, h.k.other hb v⟩
theorem Own.setAllO {w w1 : World} {b b' : Nat} {cs : List Value} {t : TypeId} (h : Own w b cs t w1) (hb : b' ≠ b) (hn : w.heap.size ≤ b') (o : Nat) (vs : List Value) : Own w b cs t (w1.setCells b' o vs) :=
  ⟨below_setCells h.bel hn o vs, h.n, blk_setOther h.k (Ne.symm hb) o vs⟩
theorem Own.upd {w w1 w2 : World} {b : Nat} {cs cs' : List Value} {t t' : TypeId} (h : Own w b cs t w1) (u : Upd b cs' t' w1 w2) : Own w b cs' t' w2 := ⟨u.below h.bel h.n, h.n, u.c⟩
theorem Own.updO {w w1 w2 : World} {b b' : Nat} {cs cs' : List Value} {t t' : TypeId} (h : Own w b cs t w1) (hb : b' ≠ b) (hn : w.heap.size ≤ b') (u : Upd b' cs' t' w1 w2) : Own w b cs t w2 := ⟨u.below h.bel hn, h.n, u.blk h.k (Ne.symm hb)⟩
theorem Own.cell {w w1 : World} {b : Nat} {cs : List Value} {t : TypeId} (h : Own w b cs t w1) {i : Nat} {v : Value} (hv : cs[i]? = some v) : w1.cell? ⟨b, i, none⟩ = some v := h.k.cellAt hv
theorem Own.fro {w w1 : World} {b : Nat} {cs : List Value} {t : TypeId} (h : Own w b cs t w1) (i : Nat) : w1.frozen? ⟨b, i, none⟩ = false := h.k.unfrozen i
theorem Own.all {w w1 : World} {b : Nat} {cs : List Value} {t : TypeId} (h : Own w b cs t w1) : w1.rangeAt b 0 cs := range_all h.k
theorem Own.there {w w1 : World} {b : Nat} {cs : List Value} {t : TypeId} (h : Own w b cs t w1) {n : Nat} (hn : n ≤ cs.length) : w1.there b 0 n := there_of_blk h.k (by omega)
/-- A quiet call behind quiet regions. -/
theorem quiet_add_left {P : Program} {f : FuncId} {args : Array Value} {w : World} {a n : Nat} {v : Value}
    (h : Calls P f args (w.drewN (a + n)) fun e w' => e = .returned v ∧ w.drewN (a + n) = w') :
    Calls P f args (w.drewN (a + n)) fun e w'' => e = .returned v ∧ ∃ m, w'' = w.drewN (a + m) :=
  h.mono fun _ _ ⟨he, hm⟩ => ⟨he, n, hm.symm⟩
theorem quiet_left {P : Program} {f : FuncId} {args : Array Value} {w : World} {n : Nat} {v : Value}
    (h : Calls P f args (w.drewN n) fun e w' => e = .returned v ∧ w.drewN n = w') : Calls P f args (w.drewN n) fun e w'' => e = .returned v ∧ ∃ m, w'' = w.drewN m :=
  h.mono fun _ _ ⟨he, hm⟩ => ⟨he, n, hm.symm⟩
theorem quiet_add {P : Program} {f : FuncId} {args : Array Value} {w : World} {a n : Nat} {v : Value}
    (h : Calls P f args (w.drewN (a + n)) fun e w' => e = .returned v ∧ ∃ m, w' = (w.drewN (a + n)).drewN m) :
    Calls P f args (w.drewN (a + n)) fun e w'' => e = .returned v ∧ ∃ m, w'' = w.drewN (a + m) :=
  h.mono fun _ _ ⟨he, m, hm⟩ => ⟨he, n + m, by rw [hm, World.drewN_drewN, Nat.add_assoc]⟩
/-- A seat: its registers (R, PC, Base, Vec, EPC, Cause, Addr), and the rest. -/
structure Se where
  r : List Nat
  op : Bool
  st : Nat
  pe : Nat
  ma : Nat
deriving DecidableEq
def Se.cells (x : Se) : List Value := x.r.map enc64 ++ [.bool x.op, .int .u8 (x.st : Int), .int .u32 (x.pe : Int), .int .u32 (x.ma : Int)]
structure Se.Ok (x : Se) : Prop where
  l : x.r.length = 22
  w : ∀ y ∈ x.r, y < 2 ^ 64
  s : x.st < 256
  p : x.pe < 2 ^ 32
  m : x.ma < 2 ^ 32
theorem Se.Ok.len {x : Se} (h : x.Ok) : x.cells.length = 26 := by simp [Se.cells, h.l]
theorem Se.Ok.g22 {x : Se} (h : x.Ok) : x.cells[22]? = some (.bool x.op) := by simp [Se.cells, h.l, List.getElem?_append_right]
theorem Se.Ok.g23 {x : Se} (h : x.Ok) : x.cells[23]? = some (.int .u8 (x.st : Int)) := by simp [Se.cells, h.l, List.getElem?_append_right]
theorem Se.Ok.g24 {x : Se} (h : x.Ok) : x.cells[24]? = some (.int .u32 (x.pe : Int)) := by simp [Se.cells, h.l, List.getElem?_append_right]
theorem Se.Ok.g25 {x : Se} (h : x.Ok) : x.cells[25]? = some (.int .u32 (x.ma : Int)) := by simp [Se.cells, h.l, List.getElem?_append_right]
theorem Se.Ok.gr {x : Se} (h : x.Ok) {i : Nat} (hi : i < 22) : x.cells[i]? = some (.int .u64 ((x.r.getD i 0 : Nat) : Int)) := by
  have hl := h.l
  rw [Se.cells, List.getElem?_append_left (by rw [List.length_map, hl]; exact hi), List.getElem?_map, List.getD_eq_getElem?_getD, List.getElem?_eq_getElem (by omega)]; rfl
theorem set_tail (a l : List Value) (n i : Nat) (v : Value) (h : a.length = n) : (a ++ l).set (n + i) v = a ++ l.set i v := by
  rw [List.set_append_right _ _ (by omega), h, Nat.add_sub_cancel_left]
theorem Se.Ok.s22 {x : Se} (h : x.Ok) (v : Bool) : x.cells.set 22 (.bool v) = { x with op := v }.cells := set_tail _ _ 22 0 _ (by simp [h.l])
theorem Se.Ok.s23 {x : Se} (h : x.Ok) (v : Nat) : x.cells.set 23 (.int .u8 (v : Int)) = { x with st := v }.cells := set_tail _ _ 22 1 _ (by simp [h.l])
theorem Se.Ok.s24 {x : Se} (h : x.Ok) (v : Nat) : x.cells.set 24 (.int .u32 (v : Int)) = { x with pe := v }.cells := set_tail _ _ 22 2 _ (by simp [h.l])
theorem Se.Ok.s25 {x : Se} (h : x.Ok) (v : Nat) : x.cells.set 25 (.int .u32 (v : Int)) = { x with ma := v }.cells := set_tail _ _ 22 3 _ (by simp [h.l])
theorem Se.Ok.sr {x : Se} (h : x.Ok) {i : Nat} (hi : i < 22) (v : Nat) : x.cells.set i (.int .u64 (v : Int)) = { x with r := x.r.set i v }.cells := by
  have hl := h.l
  rw [Se.cells, List.set_append_left _ _ (by rw [List.length_map, hl]; exact hi)]
  show _ = (x.r.set i v).map enc64 ++ _
  rw [List.map_set]; rfl
theorem Se.one (x : Se) : ∀ v ∈ x.cells, v.oneCell' = true := by
  intro v hv
  simp only [Se.cells, List.mem_append, List.mem_map, List.mem_cons, List.not_mem_nil, or_false] at hv
  rcases hv with ⟨y, _, rfl⟩ | rfl | rfl | rfl | rfl <;> rfl
def seSh : Sh := .seq (.rep 16 (.int .u64)) (.seq (.int .u64) (.seq (.int .u64) (.seq (.int .u64) (.seq (.int .u64) (.seq (.int .u64) (.seq (.int .u64) (.seq .bool (.seq (.int .u8) (.seq (.int .u32) (.seq (.int .u32) .nil))))))))))
theorem nats64 : ∀ l : List Int, (∀ x ∈ l, (Lit.int .u64 x).wf = true) → ∃ m : List Nat, l.map (Value.int .u64) = m.map enc64 ∧ m.length = l.length ∧ ∀ y ∈ m, y < 2 ^ 64 := by
  intro l
  induction l with
  | nil => exact fun _ => ⟨[], rfl, rfl, by simp⟩
  | cons x l ih =>
    intro h
    obtain ⟨m, e1, e2, e3⟩ := ih (fun y hy => h y (by simp [hy]))
    obtain ⟨n, rfl, hn⟩ := wf_u64 (h x (by simp))
    refine ⟨n :: m, by simp [e1, enc64], by simp [e2], ?_⟩
    intro y hy
    simp only [List.mem_cons] at hy
    rcases hy with rfl | hy
    · exact hn
    · exact e3 y hy
theorem seat_of_fits {w : World} {cs : List Value} (h : Fits w seSh cs) : ∃ x : Se, cs = x.cells ∧ x.Ok := by
  obtain ⟨_, _, rfl, h0, _, _, rfl, ⟨a1, rfl, w1⟩, _, _, rfl, ⟨a2, rfl, w2⟩, _, _, rfl, ⟨a3, rfl, w3⟩, _, _, rfl, ⟨a4, rfl, w4⟩, _, _, rfl, ⟨a5, rfl, w5⟩, _, _, rfl, ⟨a6, rfl, w6⟩,
    _, _, rfl, ⟨op, rfl⟩, _, _, rfl, ⟨st, rfl, ws⟩, _, _, rfl, ⟨pe, rfl, wp⟩, _, _, rfl, ⟨ma, rfl, wm⟩, h9⟩ := h
  simp only [Fits] at h9
  subst h9
  obtain ⟨l, hl, rfl, hw⟩ := fits_ints h0
  obtain ⟨m, e1, e2, e3⟩ := nats64 (l ++ [a1, a2, a3, a4, a5, a6]) (by
    intro x hx
    simp only [List.mem_append, List.mem_cons, List.not_mem_nil, or_false] at hx
    rcases hx with hx | rfl | rfl | rfl | rfl | rfl | rfl
    · exact hw x hx
    all_goals assumption)
  obtain ⟨ns, rfl, hs⟩ := wf_u8 ws
  obtain ⟨np, rfl, hp⟩ := wf_u32 wp
  obtain ⟨nm, rfl, hm⟩ := wf_u32 wm
  refine ⟨⟨m, op, ns, np, nm⟩, ?_, ⟨by simp [e2, hl], e3, hs, hp, hm⟩⟩
  show _ = m.map enc64 ++ _
  rw [← e1]
  simp
theorem wf_u64_mk {n : Nat} (h : n < 2 ^ 64) : (Lit.int .u64 (n : Int)).wf = true := by simp [Lit.wf, IntKind.min, IntKind.max, IntKind.signed, IntKind.bits]; omega
theorem wf_u32_mk {n : Nat} (h : n < 2 ^ 32) : (Lit.int .u32 (n : Int)).wf = true := by simp [Lit.wf, IntKind.min, IntKind.max, IntKind.signed, IntKind.bits]; omega
theorem wf_u8_mk {n : Nat} (h : n < 256) : (Lit.int .u8 (n : Int)).wf = true := by simp [Lit.wf, IntKind.min, IntKind.max, IntKind.signed, IntKind.bits]; omega
theorem fits_nats {w : World} (n : Nat) (l : List Nat) (hn : l.length = n) (h : ∀ x ∈ l, x < 2 ^ 64) : Fits w (.rep n (.int .u64)) (l.map enc64) := by
  subst hn
  have := fits_mk_ints (w := w) (k := .u64) (l.map fun x : Nat => (x : Int)) (by
    intro x hx
    obtain ⟨y, hy, rfl⟩ := List.mem_map.1 hx
    exact wf_u64_mk (h y hy))
  have e : enc64 = fun x : Nat => Value.int .u64 (x : Int) := rfl
  rw [e]
  simpa [List.map_map, Function.comp_def] using this
theorem Se.Ok.fits {x : Se} (h : x.Ok) (w : World) : Fits w seSh x.cells := by
  obtain ⟨r, op, st, pe, ma⟩ := x
  obtain ⟨hl, hw, hs, hp, hm⟩ := h
  simp only at hl hw hs hp hm
  have e : r = r.take 16 ++ r.drop 16 := (List.take_append_drop 16 r).symm
  have hl2 : (r.drop 16).length = 6 := by simp [hl]
  match hd : r.drop 16, hl2 with
  | [a1, a2, a3, a4, a5, a6], _ =>
    have hw2 : ∀ y ∈ [a1, a2, a3, a4, a5, a6], y < 2 ^ 64 := fun y hy => hw y (by rw [e, hd]; exact List.mem_append_right _ hy)
    have ec : (Se.mk r op st pe ma).cells = (r.take 16).map enc64 ++ ([enc64 a1] ++ ([enc64 a2] ++ ([enc64 a3] ++ ([enc64 a4] ++ ([enc64 a5] ++ ([enc64 a6] ++ ([.bool op] ++ ([.int .u8 (st : Int)] ++ ([.int .u32 (pe : Int)] ++ ([.int .u32 (ma : Int)] ++ [])))))))))) := by
      show r.map enc64 ++ _ = _
      conv => lhs; rw [e, hd]
      simp
    rw [ec]
    exact ⟨_, _, rfl, fits_nats 16 _ (by simp [hl]) (fun y hy => hw y (List.mem_of_mem_take hy)), _, _, rfl, ⟨_, rfl, wf_u64_mk (hw2 _ (by simp))⟩, _, _, rfl, ⟨_, rfl, wf_u64_mk (hw2 _ (by simp))⟩, _, _, rfl, ⟨_, rfl, wf_u64_mk (hw2 _ (by simp))⟩,
      _, _, rfl, ⟨_, rfl, wf_u64_mk (hw2 _ (by simp))⟩, _, _, rfl, ⟨_, rfl, wf_u64_mk (hw2 _ (by simp))⟩, _, _, rfl, ⟨_, rfl, wf_u64_mk (hw2 _ (by simp))⟩, _, _, rfl, ⟨_, rfl⟩, _, _, rfl, ⟨_, rfl, wf_u8_mk hs⟩, _, _, rfl, ⟨_, rfl, wf_u32_mk hp⟩, _, _, rfl, ⟨_, rfl, wf_u32_mk hm⟩, rfl⟩
/-- The table in its variable, in a later world. -/
theorem tab_heap {g : Nat} {tab : List Nat} {w w' : World} (h : TabAt g tab w) (hb : g < w.heap.size → w'.heap[g]? = w.heap[g]?) : TabAt g tab w' := fun j hj => by
  have h1 := h j hj
  have hl := World.block_lt_of_cell? w _ h1
  rw [← h1]
  simp only [World.cell?, hb hl]
theorem tab_keep {S : Nat → Prop} {g : Nat} {tab : List Nat} {w w' : World} (h : TabAt g tab w) (k : Keep S w w') (hs : ¬ S g) : TabAt g tab w' := tab_heap h fun hl => k.block g hl hs
theorem tab_below {g : Nat} {tab : List Nat} {w w' : World} (h : TabAt g tab w) (k : Below w.heap.size w w') : TabAt g tab w' := tab_heap h fun hl => k.block g hl
theorem tab_drewN {g : Nat} {tab : List Nat} {w : World} (h : TabAt g tab w) (n : Nat) : TabAt g tab (w.drewN n) := h
theorem tab_lt {g : Nat} {w : World} (h : TabAt g Lib.deBruijn64tab w) : g < w.heap.size := World.block_lt_of_cell? w _ (h 0 (by decide))
set_option maxHeartbeats 1000000 in
theorem tz_core (x k idx : Nat) (w : World) (hx0 : ((x : Int) == 0) = false)
    (key : IntKind.u64.wrap (bits BinOp.and IntKind.u64 (x : Int) (IntKind.u64.wrap (-(x : Int))) * 285870213051353865) / 288230376151711744 = (idx : Int))
    (hi : idx < 64) (hk : k < 64) (hcell : w.cell? ⟨0, idx, none⟩ = some (.int .u8 k)) :
    Calls Tryd.prog 16 #[.int .u64 x] w fun e w' => e = .returned (.int .i64 k) ∧ w = w' := by
  go_enter Tryd.func16, Tryd.ntmps16
  go_wp2_with (simp only [key])
  go_ret
  exact ⟨rfl, rfl⟩
set_option maxHeartbeats 1000000 in
theorem tz_zero (w : World) : Calls Tryd.prog 16 #[.int .u64 0] w fun e w' => e = .returned (.int .i64 64) ∧ w = w' := by
  go_enter Tryd.func16, Tryd.ntmps16
  go_wp2
  go_ret
  exact ⟨rfl, rfl⟩
theorem tz_calls (x : Nat) (hx : x < 18446744073709551616) (w : World) (hT : TabAt 0 Lib.deBruijn64tab w) :
    Calls Tryd.prog 16 #[.int .u64 x] w fun e w' => e = .returned (.int .i64 (Lib.ctz 64 x)) ∧ w = w' := by
  by_cases hx0 : x = 0
  · subst hx0
    exact tz_zero w
  · obtain ⟨hlow, hk⟩ := Lib.lowest_bit 64 x hx0 hx
    obtain ⟨hi, htab⟩ := Lib.deBruijn64_at _ hk
    have hcell := hT _ hi
    rw [htab] at hcell
    exact tz_core x _ _ w (by simp; omega) (tz64_key x _ hx hx0 hlow) hi hk hcell
set_option maxHeartbeats 1000000 in
theorem first_calls (x : Nat) (hx : x < 18446744073709551616) (w : World) (hT : TabAt 0 Lib.deBruijn64tab w) :
    Calls Tryd.prog 15 #[.int .u64 x] w fun e w' => e = .returned (.int .i64 (Lib.ctz 64 x)) ∧ w = w' := by
  have HC := Lib.hid (tz_calls x hx)
  generalize Lib.ctz 64 x = r at *
  go_enter Tryd.func15, Tryd.ntmps15
  go_wp2_with (go_at_call 16; refine (HC.out _ hT).mono ?_; rintro e w' ⟨rfl, rfl⟩)
  go_ret
  exact ⟨rfl, rfl⟩
/-- The place of the lowest one. -/
theorem ctz_form {x : Nat} (h0 : x ≠ 0) (h : x < 2 ^ 64) : ∃ m, x = (2 * m + 1) * 2 ^ Lib.ctz 64 x := by
  obtain ⟨m, hm, _⟩ := Lib.ctzFrom_spec 64 x (by omega) h
  refine ⟨m, ?_⟩
  rw [Nat.mul_comm]
  unfold Lib.ctz
  rw [if_neg h0]
  exact hm
theorem ctz_bit {x : Nat} (h0 : x ≠ 0) (h : x < 2 ^ 64) : x.testBit (Lib.ctz 64 x) = true := by
  obtain ⟨m, hm⟩ := ctz_form h0 h
  generalize Lib.ctz 64 x = c at *
  subst hm
  rw [testBit_mul_pow]
  simp [Nat.testBit_zero]
theorem ctz_low {x : Nat} (h0 : x ≠ 0) (h : x < 2 ^ 64) {j : Nat} (hj : j < Lib.ctz 64 x) : x.testBit j = false := by
  obtain ⟨m, hm⟩ := ctz_form h0 h
  generalize Lib.ctz 64 x = c at *
  subst hm
  rw [testBit_mul_pow]
  simp; omega
theorem ctz_lt {x b : Nat} (h0 : x ≠ 0) (h : x < 2 ^ 64) (hb : x < 2 ^ b) : Lib.ctz 64 x < b := by
  rcases Nat.lt_or_ge (Lib.ctz 64 x) b with h1 | h1
  · exact h1
  · have h2 := ctz_bit h0 h
    rw [testBit_ge hb h1] at h2
    cases h2
theorem ctz_unique {x c : Nat} (h : x < 2 ^ 64) (h1 : x.testBit c = true) (h2 : ∀ j, j < c → x.testBit j = false) : Lib.ctz 64 x = c := by
  have h0 : x ≠ 0 := by intro e; rw [e] at h1; simp at h1
  rcases Nat.lt_trichotomy (Lib.ctz 64 x) c with hl | hl | hl
  · have := ctz_bit h0 h; rw [h2 _ hl] at this; cases this
  · exact hl
  · have := ctz_low h0 h hl; rw [h1] at this; cases this
def nextB (x : Se) : Bool := x.op && decide (x.pe &&& x.ma ≠ 0)
def nextN (x : Se) : Int := if nextB x = true then (Lib.ctz 64 (x.pe &&& x.ma) : Int) else 0
theorem and32 {x : Se} (h : x.Ok) : x.pe &&& x.ma < 2 ^ 32 := Nat.and_lt_two_pow _ h.m
set_option maxHeartbeats 1000000 in
theorem next_nil (w : World) : Calls Tryd.prog 12 #[.pointer none] w fun e w' => e = .returned (.tuple #[.int .i64 0, .bool false]) ∧ ∃ n, w' = w.drewN n := by
  go_enter Tryd.func12, Tryd.ntmps12
  go_wp2
  go_quiet (fail)
  go_wp2
  go_ret2
  exact ⟨rfl, _, rfl⟩
set_option maxHeartbeats 1000000 in
theorem next_calls (x : Se) (h : x.Ok) (b : Nat) (w : World) (hb : Blk w b x.cells 26) (hT : TabAt 0 Lib.deBruijn64tab w) :
    Calls Tryd.prog 12 #[.pointer (some ⟨b, 0, none⟩)] w fun e w' => e = .returned (.tuple #[.int .i64 (nextN x), .bool (nextB x)]) ∧ ∃ n, w' = w.drewN n := by
  have c22 := hb.cellAt h.g22
  have c24 := hb.cellAt h.g24
  have c25 := hb.cellAt h.g25
  have HB := Lib.hid (show nextB x = (x.op && decide (x.pe &&& x.ma ≠ 0)) from rfl)
  have HN := Lib.hid (show nextN x = if nextB x = true then (Lib.ctz 64 (x.pe &&& x.ma) : Int) else 0 from rfl)
  generalize nextN x = rn at *
  generalize nextB x = rb at *
  have HA := Lib.hid (bits_and (k := .u32) rfl h.p h.m)
  have HF := Lib.hid (first_calls (x.pe &&& x.ma) (Nat.lt_trans (and32 h) (by omega)))
  have HT := Lib.hid hT
  clear hT
  by_cases h1 : x.op = true
  · rw [h1] at c22
    by_cases h2 : x.pe &&& x.ma = 0
    · have e : rb = false := by rw [HB.out]; simp [h2]
      have e2 : rn = 0 := by rw [HN.out, e]; rfl
      have hq : Go.bits .and .u32 (x.pe : Int) (x.ma : Int) = 0 := by rw [HA.out, h2]; rfl
      rw [e, e2]
      clear e e2 HN HB
      generalize (x.pe : Int) = pe at *
      generalize (x.ma : Int) = ma at *
      go_enter Tryd.func12, Tryd.ntmps12
      go_wp2
      go_quiet (fail)
      go_wp2
      go_ret2
      exact ⟨rfl, _, rfl⟩
    · have e : rb = true := by rw [HB.out]; simp [h2, h1]
      have e2 : rn = (Lib.ctz 64 (x.pe &&& x.ma) : Int) := by rw [HN.out, e]; rfl
      rw [e, e2]
      generalize Lib.ctz 64 (x.pe &&& x.ma) = r at *
      have hq := HA.out
      have hq0 : (((x.pe &&& x.ma : Nat) : Int) == 0) = false := by simpa using h2
      have hq1 : 0 ≤ ((x.pe &&& x.ma : Nat) : Int) := by omega
      have hq2 : ((x.pe &&& x.ma : Nat) : Int) < 4294967296 := by have := and32 h; omega
      clear e e2 HN HB HA
      generalize ((x.pe &&& x.ma : Nat) : Int) = q at *
      generalize (x.pe : Int) = pe at *
      generalize (x.ma : Int) = ma at *
      go_enter Tryd.func12, Tryd.ntmps12
      go_wp2
      go_quiet (fail)
      go_wp2
      go_quiet ((go_at_call 15; exact quiet_add_left (HF.out _ HT.out)))
      go_wp2
      go_ret2
      exact ⟨rfl, _, World.drewN_drewN _ _ _⟩
  · have h1' : x.op = false := by simpa using h1
    have e : rb = false := by rw [HB.out]; simp [h1']
    have e2 : rn = 0 := by rw [HN.out, e]; rfl
    rw [e, e2]
    rw [h1'] at c22
    clear e e2 HN HB h1 h1'
    generalize (x.pe : Int) = pe at *
    generalize (x.ma : Int) = ma at *
    go_enter Tryd.func12, Tryd.ntmps12
    go_wp2
    go_quiet (fail)
    go_wp2
    go_ret2
    exact ⟨rfl, _, rfl⟩
set_option maxHeartbeats 1000000 in
theorem right_calls (n : Int) (w : World) :
    Calls Tryd.prog 11 #[.int .i64 n] w fun e w' => e = .returned (.bool (decide (0 ≤ n ∧ n < 8))) ∧ w = w' := by
  go_enter Tryd.func11, Tryd.ntmps11
  go_wp2
  all_goals
    go_ret
    refine ⟨ret_bool ?_, rfl⟩
    first
      | exact (decide_eq_true (by omega)).symm
      | exact (decide_eq_false (by omega)).symm
      | (rw [decide_eq_decide]; omega)
      | (rw [Bool.eq_iff_iff]; simp; omega)
/-- A seat that waits is ready, if a line that may come was raised. -/
def wakeS (x : Se) : Se := if x.st = 1 ∧ x.pe &&& x.ma ≠ 0 then { x with st := 0 } else x
theorem wake_ok {x : Se} (h : x.Ok) : (wakeS x).Ok := by
  unfold wakeS; split
  · exact ⟨h.l, h.w, by simp, h.p, h.m⟩
  · exact h
set_option maxHeartbeats 1000000 in
theorem wake_calls (x : Se) (h : x.Ok) (b : Nat) (w : World) (hb : Blk w b x.cells 26) :
    Calls Tryd.prog 14 #[.pointer (some ⟨b, 0, none⟩)] w fun e w' => e = .returned (.tuple #[]) ∧ Upd b (wakeS x).cells 26 w w' := by
  have U := Lib.hid (Upd.same hb)
  have c23 := hb.cellAt h.g23
  have c24 := hb.cellAt h.g24
  have c25 := hb.cellAt h.g25
  have f23 := hb.unfrozen 23
  have HW := Lib.hid (show wakeS x = if x.st = 1 ∧ x.pe &&& x.ma ≠ 0 then { x with st := 0 } else x from rfl)
  have H23 := Lib.hid (h.s23 0)
  generalize wakeS x = res at *
  have HA := Lib.hid (bits_and (k := .u32) rfl h.p h.m)
  by_cases h1 : x.st = 1
  · rw [h1] at c23
    by_cases h2 : x.pe &&& x.ma = 0
    · have e : res = x := by rw [HW.out]; simp [h2]
      have hq : Go.bits .and .u32 (x.pe : Int) (x.ma : Int) = 0 := by rw [HA.out, h2]; rfl
      subst e
      clear HW
      generalize (res.pe : Int) = pe at *
      generalize (res.ma : Int) = ma at *
      go_enter Tryd.func14, Tryd.ntmps14
      go_wp2
      go_quiet (fail)
      go_wp2
      go_end0
      exact ⟨rfl, U.out.drewN _⟩
    · have e : res = { x with st := 0 } := by rw [HW.out]; simp [h1, h2]
      have hq : (Go.bits .and .u32 (x.pe : Int) (x.ma : Int) == 0) = false := by rw [HA.out]; simpa using h2
      have E := Lib.hid e
      clear e HW
      generalize (x.pe : Int) = pe at *
      generalize (x.ma : Int) = ma at *
      go_enter Tryd.func14, Tryd.ntmps14
      go_wp2
      go_quiet (fail)
      go_wp2
      go_end0
      exact ⟨rfl, by rw [E.out, ← H23.out]; exact (U.out.drewN _).set 23 _⟩
  · have e : res = x := by rw [HW.out]; simp [h1]
    have h1' : ((x.st : Int) == 1) = false := by simp; omega
    subst e
    clear HW HA
    generalize (res.st : Int) = st at *
    generalize (res.pe : Int) = pe at *
    generalize (res.ma : Int) = ma at *
    go_enter Tryd.func14, Tryd.ntmps14
    go_wp2
    go_quiet (fail)
    go_wp2
    go_end0
    exact ⟨rfl, U.out.drewN _⟩
set_option maxHeartbeats 1000000 in
theorem wake_nil (w : World) : Calls Tryd.prog 14 #[.pointer none] w fun e w' => e = .returned (.tuple #[]) ∧ ∃ n, w' = w.drewN n := by
  go_enter Tryd.func14, Tryd.ntmps14
  go_wp2
  go_quiet (fail)
  go_wp2
  go_end0
  exact ⟨rfl, _, rfl⟩
def raiseS (x : Se) (n : Int) : Se := if 0 ≤ n ∧ n < 8 ∧ x.st ≠ 2 then wakeS { x with pe := x.pe ||| 2 ^ n.toNat } else x
def raiseE (x : Se) (n : Int) : Int := if 0 ≤ n ∧ n < 8 then if x.st = 2 then 10 else 0 else 1
theorem pow8 {k : Nat} (h : k < 8) : 2 ^ k < 2 ^ 32 := Nat.pow_lt_pow_right (by omega) (by omega)
theorem orp_ok {x : Se} (h : x.Ok) {k : Nat} (hk : k < 8) : ({ x with pe := x.pe ||| 2 ^ k } : Se).Ok := ⟨h.l, h.w, h.s, Nat.or_lt_two_pow h.p (pow8 hk), h.m⟩
theorem raise_ok {x : Se} (h : x.Ok) (n : Int) : (raiseS x n).Ok := by
  unfold raiseS; split
  · rename_i hn; exact wake_ok (orp_ok h (by omega))
  · exact h
set_option maxHeartbeats 1000000 in
theorem raise_nil (n : Int) (w : World) : Calls Tryd.prog 9 #[.pointer none, .int .i64 n] w fun e w' => e = .returned (.int .i64 1) ∧ w = w' := by
  go_enter Tryd.func9, Tryd.ntmps9
  go_wp2
  go_ret
  exact ⟨rfl, rfl⟩
set_option maxHeartbeats 1000000 in
theorem raise_calls (x : Se) (h : x.Ok) (n : Int) (b : Nat) (w : World) (hb : Blk w b x.cells 26) :
    Calls Tryd.prog 9 #[.pointer (some ⟨b, 0, none⟩), .int .i64 n] w fun e w' => e = .returned (.int .i64 (raiseE x n)) ∧ Upd b (raiseS x n).cells 26 w w' := by
  have U := Lib.hid (Upd.same hb)
  have c23 := hb.cellAt h.g23
  have c24 := hb.cellAt h.g24
  have f24 := hb.unfrozen 24
  have HS := Lib.hid (show raiseS x n = if 0 ≤ n ∧ n < 8 ∧ x.st ≠ 2 then wakeS { x with pe := x.pe ||| 2 ^ n.toNat } else x from rfl)
  have HE := Lib.hid (show raiseE x n = if 0 ≤ n ∧ n < 8 then if x.st = 2 then 10 else 0 else 1 from rfl)
  generalize raiseS x n = res at *
  generalize raiseE x n = er at *
  by_cases hn : 0 ≤ n ∧ n < 8
  · by_cases h1 : x.st = 2
    · have e : res = x := by rw [HS.out]; simp [h1]
      have e2 : er = 10 := by rw [HE.out]; simp [h1, hn]
      subst e
      rw [e2]
      rw [h1] at c23
      clear HS HE e2
      have hd : decide (0 ≤ n ∧ n < 8) = true := decide_eq_true hn
      generalize (res.pe : Int) = pe at *
      go_enter Tryd.func9, Tryd.ntmps9
      go_wp2_with (go_at_call 11; refine (right_calls _ _).mono ?_; rintro e w' ⟨rfl, rfl⟩)
      go_ret
      exact ⟨rfl, U.out⟩
    · obtain ⟨k, rfl⟩ := Int.eq_ofNat_of_zero_le hn.1
      have hk : k < 8 := by omega
      have e : res = wakeS { x with pe := x.pe ||| 2 ^ k } := by rw [HS.out]; simp [h1, hn.2]
      have e2 : er = 0 := by rw [HE.out]; simp [h1, hn.2]
      have h1' : ((x.st : Int) == 2) = false := by simp; omega
      have hd : decide (0 ≤ (k : Int) ∧ (k : Int) < 8) = true := decide_eq_true hn
      have E := Lib.hid e
      have E2 := Lib.hid e2
      clear e e2 HS HE
      have hw1 : IntKind.u32.wrap ((2 : Int) ^ k) = ((2 ^ k : Nat) : Int) := by
        rw [show (2 : Int) ^ k = ((2 ^ k : Nat) : Int) by simp]
        exact wrap_lt (k := .u32) rfl (pow8 hk)
      have hor := bits_or (k := .u32) rfl h.p (pow8 hk)
      have U1 : Hid (Upd b { x with pe := x.pe ||| 2 ^ k }.cells 26 w ((w.drewN 1).setCell ⟨b, 24, none⟩ (.int .u32 ((x.pe ||| 2 ^ k : Nat) : Int)))) := by
        rw [← h.s24]
        exact (U.out.drewN 1).set 24 _
      have h0 := hn.1
      have h8 := hn.2
      clear hn
      generalize (x.st : Int) = st at *
      generalize ((2 ^ k : Nat) : Int) = p2 at *
      generalize ((x.pe ||| 2 ^ k : Nat) : Int) = q at *
      generalize (x.pe : Int) = pe at *
      go_enter Tryd.func9, Tryd.ntmps9
      go_wp2_with (go_at_call 11; refine (right_calls _ _).mono ?_; rintro e w' ⟨rfl, rfl⟩)
      go_still_tail 9, (by kernel_rfl)
      change wpList _ _ _ _ _ (w.drewN 1)
      go_upto_region 6 with (fail)
      generalize (w.drewN 1).setCell ⟨b, 24, none⟩ (.int .u32 q) = w2 at *
      go_wp2_with (go_at_call 14; refine (wake_calls _ (orp_ok h hk) b _ U1.out.c).mono ?_; rintro e w3 ⟨rfl, u3⟩)
      have U3 := Lib.hid (U1.out.trans u3)
      go_ret
      exact ⟨ret_int E2.out.symm, by rw [E.out]; exact U3.out⟩
  · have e : res = x := by rw [HS.out]; rw [if_neg (fun h => hn ⟨h.1, h.2.1⟩)]
    have e2 : er = 1 := by rw [HE.out]; rw [if_neg hn]
    subst e
    rw [e2]
    clear HS HE e2
    have hd : decide (0 ≤ n ∧ n < 8) = false := decide_eq_false hn
    go_enter Tryd.func9, Tryd.ntmps9
    go_wp2_with (go_at_call 11; refine (right_calls _ _).mono ?_; rintro e w' ⟨rfl, rfl⟩)
    go_ret
    exact ⟨rfl, U.out⟩
def takeS (x : Se) : Se := if nextB x = true then { x with pe := andn x.pe (2 ^ Lib.ctz 64 (x.pe &&& x.ma)) } else x
theorem next_some {x : Se} (h : x.Ok) (hn : nextB x = true) : x.op = true ∧ x.pe &&& x.ma ≠ 0 ∧ Lib.ctz 64 (x.pe &&& x.ma) < 32 := by
  unfold nextB at hn
  simp only [Bool.and_eq_true, decide_eq_true_eq] at hn
  have := and32 h
  exact ⟨hn.1, hn.2, ctz_lt hn.2 (by omega) this⟩
theorem take_ok {x : Se} (h : x.Ok) : (takeS x).Ok := by
  unfold takeS; split
  · rename_i hn
    exact ⟨h.l, h.w, h.s, andn_lt h.p (Nat.pow_lt_pow_right (by omega) (next_some h hn).2.2), h.m⟩
  · exact h
set_option maxHeartbeats 1000000 in
theorem take_calls (x : Se) (h : x.Ok) (b : Nat) (w : World) (hb : Blk w b x.cells 26) (hT : TabAt 0 Lib.deBruijn64tab w) :
    Calls Tryd.prog 13 #[.pointer (some ⟨b, 0, none⟩)] w fun e w' => e = .returned (.tuple #[.int .i64 (nextN x), .bool (nextB x)]) ∧ Upd b (takeS x).cells 26 w w' := by
  have U := Lib.hid (Upd.same hb)
  have c24 := hb.cellAt h.g24
  have f24 := hb.unfrozen 24
  have HC := Lib.hid ((next_calls x h b w hb hT).mono (R' := fun e w' => e = .returned (.tuple #[.int .i64 (nextN x), .bool (nextB x)]) ∧ Upd b x.cells 26 w w') fun _ _ ⟨he, m, hm⟩ => ⟨he, by rw [hm]; exact (Upd.same hb).drewN m⟩)
  have H24 := Lib.hid h.g24
  have HT := Lib.hid hT
  clear hT
  have HS := Lib.hid (show takeS x = if nextB x = true then { x with pe := andn x.pe (2 ^ Lib.ctz 64 (x.pe &&& x.ma)) } else x from rfl)
  have HN := Lib.hid (show nextN x = if nextB x = true then (Lib.ctz 64 (x.pe &&& x.ma) : Int) else 0 from rfl)
  have HX := Lib.hid (next_some h)
  generalize takeS x = res at *
  generalize nextN x = rn at *
  cases hB : nextB x with
  | false =>
    rw [hB] at HC HS HN
    have E := Lib.hid (show res = x by rw [HS.out]; simp)
    clear HS HN HX hB
    go_enter Tryd.func13, Tryd.ntmps13
    go_wp2_with (go_at_call 12; refine HC.out.mono ?_; rintro e w2 ⟨rfl, u2⟩)
    go_ret2
    exact ⟨rfl, by rw [E.out]; assumption⟩
  | true =>
    rw [hB] at HC HS HN
    have hc := (HX.out hB).2.2
    have E := Lib.hid (show res = { x with pe := andn x.pe (2 ^ Lib.ctz 64 (x.pe &&& x.ma)) } by rw [HS.out]; simp)
    have e2 : rn = (Lib.ctz 64 (x.pe &&& x.ma) : Int) := by rw [HN.out]; simp
    subst e2
    clear HS HN HX hB
    generalize Lib.ctz 64 (x.pe &&& x.ma) = k at *
    have hk : (2 : Nat) ^ k < 2 ^ 32 := Nat.pow_lt_pow_right (by omega) hc
    have hw1 : IntKind.u32.wrap ((2 : Int) ^ k) = ((2 ^ k : Nat) : Int) := by
      rw [show (2 : Int) ^ k = ((2 ^ k : Nat) : Int) by simp]
      exact wrap_lt (k := .u32) rfl hk
    have hor := bits_andNot (k := .u32) rfl h.p hk
    have U1 : Hid (∀ w2, Upd b x.cells 26 w w2 → Upd b { x with pe := andn x.pe (2 ^ k) }.cells 26 w ((w2.drewN 1).setCell ⟨b, 24, none⟩ (.int .u32 ((andn x.pe (2 ^ k) : Nat) : Int)))) := by
      intro w2 u
      rw [← h.s24]
      exact (u.drewN 1).set 24 _
    have h0 : 0 ≤ (k : Int) := by omega
    clear hk
    generalize ((2 ^ k : Nat) : Int) = p2 at *
    generalize ((andn x.pe (2 ^ k) : Nat) : Int) = q at *
    generalize (x.pe : Int) = pe at *
    clear c24 f24
    go_enter Tryd.func13, Tryd.ntmps13
    go_wp2_with (go_at_call 12; refine HC.out.mono ?_; rintro e w2 ⟨rfl, u2⟩; have c24 := u2.c.cellAt H24.out; have f24 := u2.c.unfrozen 24; have U2 := Lib.hid u2; clear u2)
    go_still_tail 9, (by kernel_rfl)
    change wpList _ _ _ _ _ (World.drewN _ 1)
    have U3 := Lib.hid (U1.out _ U2.out)
    go_upto_region 4 with (fail)
    go_wp2
    go_ret2
    exact ⟨rfl, by rw [E.out]; exact U3.out⟩
def nearS (x : Se) : Se := { x with st := x.st % 3, pe := x.pe % 256, ma := x.ma % 256 }
theorem near_ok {x : Se} (h : x.Ok) : (nearS x).Ok := ⟨h.l, h.w, by have := h.s; show x.st % 3 < 256; omega, by show x.pe % 256 < 2 ^ 32; omega, by show x.ma % 256 < 2 ^ 32; omega⟩
def zeroSe : Se := ⟨List.replicate 22 0, false, 0, 0, 0⟩
theorem zero_ok : zeroSe.Ok := ⟨by decide, by decide, by decide, by decide, by decide⟩
theorem size26 : (Tryd.prog.info? 26).map (·.size) = some 26 := by kernel_rfl
theorem info_se {x : Se} (h : x.Ok) : (Tryd.prog.info? 26).map (·.size) = some x.cells.length := by rw [h.len]; exact size26
theorem zero_cells : zeroSe.cells = [.int .u64 0, .int .u64 0, .int .u64 0, .int .u64 0, .int .u64 0, .int .u64 0, .int .u64 0, .int .u64 0, .int .u64 0, .int .u64 0, .int .u64 0, .int .u64 0, .int .u64 0, .int .u64 0, .int .u64 0, .int .u64 0, .int .u64 0, .int .u64 0, .int .u64 0, .int .u64 0, .int .u64 0, .int .u64 0, .bool false, .int .u8 0, .int .u32 0, .int .u32 0] := by kernel_rfl
set_option maxHeartbeats 1000000 in
theorem near_calls (x : Se) (h : x.Ok) (w : World) :
    Calls Tryd.prog 8 #[.agg x.cells.toArray] w fun e w' => e = .returned (.agg (nearS x).cells.toArray) ∧ Below w.heap.size w w' := by
  have HI := Lib.hid (info_se (near_ok h))
  have HL := Lib.hid (near_ok h).len
  have HO := Lib.hid (Se.one (nearS x))
  have GN : Hid (∀ b w3, Blk w3 b x.cells 26 → Upd b (nearS x).cells 26 w3 (((w3.setCell ⟨b, 23, none⟩ (.int .u8 ((x.st : Int) % 3))).setCell ⟨b, 24, none⟩ (.int .u32 ((x.pe : Int) % 256))).setCell ⟨b, 25, none⟩ (.int .u32 ((x.ma : Int) % 256)))) := by
    intro b w3 hb
    have k1 : ({ x with st := x.st % 3 } : Se).Ok := ⟨h.l, h.w, by have := h.s; show x.st % 3 < 256; omega, h.p, h.m⟩
    have k2 : ({ x with st := x.st % 3, pe := x.pe % 256 } : Se).Ok := ⟨h.l, h.w, k1.s, by show x.pe % 256 < 2 ^ 32; omega, h.m⟩
    have e1 := h.s23 (x.st % 3)
    have e2 := k1.s24 (x.pe % 256)
    have e3 := k2.s25 (x.ma % 256)
    have u := (((Upd.same hb).set 23 (.int .u8 ((x.st % 3 : Nat) : Int))).set 24 (.int .u32 ((x.pe % 256 : Nat) : Int))).set 25 (.int .u32 ((x.ma % 256 : Nat) : Int))
    rw [e1, e2, e3] at u
    exact u
  have G23 := Lib.hid h.g23
  have G24 := Lib.hid h.g24
  have G25 := Lib.hid h.g25
  have h0 : 0 ≤ (x.st : Int) := by omega
  have h1 : 0 ≤ (x.pe : Int) := by omega
  have h2 : 0 ≤ (x.ma : Int) := by omega
  have HC := Lib.hid h.len
  generalize (nearS x).cells = NC at *
  generalize (x.st : Int) = st at *
  generalize (x.pe : Int) = pe at *
  generalize (x.ma : Int) = ma at *
  generalize x.cells = XC at *
  go_enter Tryd.func8, Tryd.ntmps8
  go_upto_region 1 with (fail)
  have h3b := blocks2 w XC.toArray #[.int .u64 0, .int .u64 0, .int .u64 0, .int .u64 0, .int .u64 0, .int .u64 0, .int .u64 0, .int .u64 0, .int .u64 0, .int .u64 0, .int .u64 0, .int .u64 0, .int .u64 0, .int .u64 0, .int .u64 0, .int .u64 0, .int .u64 0, .int .u64 0, .int .u64 0, .int .u64 0, .int .u64 0, .int .u64 0, .bool false, .int .u8 0, .int .u32 0, .int .u32 0] 26 26
  generalize (w.alloc (.cells _ 26)).alloc _ = w3 at *
  obtain ⟨hB, hsz, b1, b2⟩ := h3b w3 rfl
  clear h3b
  have b1' : Blk w3 w.heap.size XC 26 := by simpa using b1
  have c23 := b1'.cellAt G23.out
  have c24 := b1'.cellAt G24.out
  have c25 := b1'.cellAt G25.out
  have f23 := b1'.unfrozen 23
  have f24 := b1'.unfrozen 24
  have f25 := b1'.unfrozen 25
  have U1 := Lib.hid (GN.out _ _ b1')
  have hl2 := b2.lt
  have B2 := Lib.hid b2
  have XB := Lib.hid hB
  clear b1 b1' b2 hB hsz
  go_upto_region 4 with (fail)
  generalize ((w3.setCell _ (.int .u8 (st % 3))).setCell _ (.int .u32 (pe % 256))).setCell _ (.int .u32 (ma % 256)) = w4 at *
  have B4 := Lib.hid (U1.out.blk B2.out (by omega))
  go_wp2_with (first | refine wpList_load_mid rfl 26 (.tmp 1) rfl w.heap.size 0 rfl NC _ (range_all U1.out.c) Tryd.underlying26 rfl HI.out ?_ | refine wpList_store_mid rfl 26 (.tmp 2) (.tmp 15) rfl (w.heap.size + 1) 0 NC.toArray rfl rfl (there_of_blk B4.out ?s1) ?s2 ?s3 ?_)
  case s1 => have := HL.out; simp; omega
  case s2 => simpa using HI.out
  case s3 => first | exact HO.out | exact all_oneCell_toArray HO.out
  have hbz := blk_setAll B4.out (vs := NC) (by have := HL.out; simp; omega)
  refine bodyPost_ret (v := .agg NC.toArray) (results_cell_row Tryd.results8 _ _ (w.heap.size + 1) _ NC.toArray _ _ rfl hbz Tryd.underlying26 rfl (by simpa using HI.out)) rfl ⟨rfl, ?_⟩
  exact below_setCells (U1.out.below XB.out (Nat.le_refl _)) (by omega) 0 _
theorem zero_val (w : World) : (zeroValue 26).run Tryd.prog w = .ok (.agg zeroSe.cells.toArray) w := by kernel_rfl
theorem built1 : (zeroSe.cells.set 25 (.int .u32 6)).set 22 (.bool true) = ({ zeroSe with op := true, ma := 6 } : Se).cells := by kernel_rfl
set_option maxHeartbeats 1000000 in
theorem awake_calls (w : World) (hT : TabAt 0 Lib.deBruijn64tab w) :
    Calls Tryd.prog 10 #[] w fun e w' => e = .returned (.bool true) ∧ Below w.heap.size w w' := by
  have ok1 : Hid (({ zeroSe with op := true, ma := 6 } : Se).Ok) := ⟨zero_ok.l, zero_ok.w, zero_ok.s, zero_ok.p, by decide⟩
  have HI := Lib.hid (info_se ok1.out)
  have HO := Lib.hid (Se.one { zeroSe with op := true, ma := 6 })
  have HZL := Lib.hid zero_ok.len
  have HXL := Lib.hid ok1.out.len
  have HR1 := Lib.hid (raise_calls _ ok1.out 2)
  have HR2 := Lib.hid (raise_calls _ (raise_ok ok1.out 2) 1)
  have ok3 := Lib.hid (raise_ok (raise_ok ok1.out 2) 1)
  have HT1 := Lib.hid (take_calls _ ok3.out)
  have HT2 := Lib.hid (take_calls _ (take_ok ok3.out))
  have ok5 := Lib.hid (take_ok (take_ok ok3.out))
  have n1 : nextN (raiseS (raiseS { zeroSe with op := true, ma := 6 } 2) 1) = 1 := by decide +kernel
  have b1 : nextB (raiseS (raiseS { zeroSe with op := true, ma := 6 } 2) 1) = true := by decide +kernel
  have n2 : nextN (takeS (raiseS (raiseS { zeroSe with op := true, ma := 6 } 2) 1)) = 2 := by decide +kernel
  have b2 : nextB (takeS (raiseS (raiseS { zeroSe with op := true, ma := 6 } 2) 1)) = true := by decide +kernel
  have p2 : (takeS (takeS (raiseS (raiseS { zeroSe with op := true, ma := 6 } 2) 1))).pe = 0 := by decide +kernel
  have G5 := Lib.hid ok5.out.g24
  rw [p2] at G5
  rw [n1, b1] at HT1
  rw [n2, b2] at HT2
  clear n1 b1 n2 b2 p2
  generalize takeS (takeS (raiseS (raiseS { zeroSe with op := true, ma := 6 } 2) 1)) = x5 at *
  generalize takeS (raiseS (raiseS { zeroSe with op := true, ma := 6 } 2) 1) = x4 at *
  generalize raiseS (raiseS { zeroSe with op := true, ma := 6 } 2) 1 = x3 at *
  generalize raiseS { zeroSe with op := true, ma := 6 } 2 = x2 at *
  have HB := Lib.hid built1
  have hz := zero_val
  generalize ({ zeroSe with op := true, ma := 6 } : Se).cells = XC at *
  generalize zeroSe.cells = ZC at *
  have hzs : ZC.toArray.size = 26 := by simpa using HZL.out
  have hzn : ¬ ZC.toArray = #[] := fun h => by rw [h] at hzs; simp at hzs
  have HT := Lib.hid hT
  clear hT
  have I1 : Hid (Inv w ZC 26 (w.alloc (.cells ZC.toArray 26))) := Inv.new w _ _
  go_enter Tryd.func10, Tryd.ntmps10
  have J1 := Lib.hid (I1.out.setAll ((ZC.set 25 (.int .u32 6)).set 22 (.bool true)) (by simp))
  rw [← HB.out] at HO
  go_upto_region 2 with (refine wpList_store_mid rfl 26 (.tmp 1) (.tmp 6) rfl w.heap.size 0 ((ZC.set 25 (.int .u32 6)).set 22 (.bool true)).toArray rfl rfl (there_of_blk I1.out.k ?s1) ?s2 ?s3 ?_)
  case s2 => have h2 := HI.out; rw [← HB.out] at h2; simpa using h2
  case s3 => first | exact HO.out | exact all_oneCell_toArray HO.out
  generalize (w.alloc (.cells ZC.toArray 26)).setCells w.heap.size 0 _ = w1 at *
  rw [HB.out] at J1
  go_upto_region 3 with (go_at_call 9; refine (HR1.out _ _ J1.out.k).mono ?_; rintro e w2 ⟨rfl, u2⟩; have J2 := Lib.hid (J1.out.upd u2); clear u2)
  go_upto_region 4 with (go_at_call 9; refine (HR2.out _ _ J2.out.k).mono ?_; rintro e w3 ⟨rfl, u3⟩; have J3 := Lib.hid (J2.out.upd u3); clear u3)
  go_upto_region 5 with (go_at_call 13; refine (HT1.out _ _ J3.out.k (tab_below HT.out J3.out.b)).mono ?_; rintro e w4 ⟨rfl, u4⟩; have J4 := Lib.hid (J3.out.upd u4); clear u4)
  go_upto_region 6 with (go_at_call 13; refine (HT2.out _ _ J4.out.k (tab_below HT.out J4.out.b)).mono ?_; rintro e w5 ⟨rfl, u5⟩; have J5 := Lib.hid (J4.out.upd u5); clear u5)
  have c24 := J5.out.k.cellAt G5.out
  rw [show ((0 : Nat) : Int) = 0 from rfl] at c24
  go_wp2
  go_ret
  exact ⟨rfl, J5.out.b⟩
end Go.Proofs.YtajgiolnajneeaaDoor.Walks
