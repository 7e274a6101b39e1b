/- Whole arrays and structs by value: loads, stores, elements, over cells that are whatever. -/
import Derived.WalkKit
import Derived.Deep.MidRow
import Derived.BigFrame
import Derived.Test.YtpimjioamoaejaaHeap
namespace Go.Proofs.Ytpimjioamoaejaa.Arr
open Go Go.RowKit Go.Proofs.Ytpimjioamoaejaa.Heap

theorem run_index_one {P : Program} (w : World) {T E : TypeId} {n : Nat} {d : TypeDesc} {cs : List Value} {i : Nat} {k : IntKind} {v : Value} (hu : P.underlying T = some (.array n E)) (he : P.underlying E = some d) (hd : d.isRow = false)
    (hs : (P.info? E).map (·.size) = some 1) (hi : i < n) (hv : cs[i]? = some v) : (Instr.index T (.agg cs.toArray) (.int k (i : Int))).run P w = .ok v w := by
  have hagg : (isAgg E).run P w = .ok false w := by
    unfold isAgg
    rw [Sem.run_bind, run_underlying he w]
    cases d <;> simp_all
  cases hq : P.info? E with
  | none => simp [hq] at hs
  | some j =>
    have hs' : j.size = 1 := by simpa [hq] using hs
    simp [Instr.index, Sem.run_bind, asIntOf, run_underlying hu w, part, hagg, sizeOf, typeInfo, hq, hs', hi, hv]
/-- A field of one cell, of a struct's value. -/
theorem run_field_one {P : Program} (w : World) {T : TypeId} {fs : Array Field} {d : TypeDesc} {cs : List Value} {i : Nat} {f : Field} {v : Value} (hu : P.underlying T = some (.struct fs)) (hf : fs[i]? = some f)
    (he : P.underlying f.type = some d) (hd : d.isRow = false) (hs : (P.info? f.type).map (·.size) = some 1) (hv : cs[f.offset]? = some v) : (Instr.field T (.agg cs.toArray) i).run P w = .ok v w := by
  have hagg : (isAgg f.type).run P w = .ok false w := by
    unfold isAgg
    rw [Sem.run_bind, run_underlying he w]
    cases d <;> simp_all
  cases hq : P.info? f.type with
  | none => simp [hq] at hs
  | some j =>
    have hs' : j.size = 1 := by simpa [hq] using hs
    simp [Instr.field, Sem.run_bind, run_underlying hu w, hf, asAgg, part, hagg, sizeOf, typeInfo, hq, hs', hv]
/-- A block's cells from a place on. -/
theorem range_of_blk {w : World} {b : Nat} {cs : List Value} {t : TypeId} (h : Blk w b cs t) {o n : Nat} {seg : List Value} (hs : (cs.drop o).take n = seg) : w.rangeAt b o seg := fun j v hv => by
  rw [← hs] at hv
  have hj := (List.getElem?_eq_some_iff.1 hv).1
  rw [List.length_take] at hj
  rw [List.getElem?_take_of_lt (by omega), List.getElem?_drop] at hv
  exact h.cellAt hv
theorem range_all {w : World} {b : Nat} {cs : List Value} {t : TypeId} (h : Blk w b cs t) : w.rangeAt b 0 cs := fun j v hv => by
  rw [Nat.zero_add]; exact h.cellAt hv
theorem there_of_blk {w : World} {b : Nat} {cs : List Value} {t : TypeId} (h : Blk w b cs t) {o n : Nat} (hn : o + n ≤ cs.length) : w.there b o n := fun j hj => by
  refine ⟨?_, h.unfrozen _⟩
  rw [h.cell, List.getElem?_eq_getElem (by omega)]; rfl
theorem heap_setCells_other (w : World) (b o : Nat) (vs : List Value) (k : Nat) (hk : k ≠ b) : (w.setCells b o vs).heap[k]? = w.heap[k]? := by
  induction vs generalizing o w with
  | nil => rfl
  | cons v vs ih => rw [World.setCells, ih, Below.heap_setCell _ _ _ _ (by simpa using hk)]
theorem Blk.setCells {w : World} {b : Nat} {cs : List Value} {t : TypeId} (h : Blk w b cs t) (o : Nat) (vs : List Value) : Blk (w.setCells b o vs) b (cs.take o ++ vs ++ cs.drop (o + vs.length)) t ∨ cs.length < o + vs.length := by
  by_cases hl : cs.length < o + vs.length
  · exact .inr hl
  · refine .inl ?_
    induction vs generalizing o w cs with
    | nil => simpa [World.setCells] using h
    | cons v vs ih =>
      rw [World.setCells]
      have h1 := h.set o v
      simp only [List.length_cons] at hl
      have h2 := ih h1 (o + 1) (by rw [List.length_set]; omega)
      have e : (cs.set o v).take (o + 1) ++ vs ++ (cs.set o v).drop (o + 1 + vs.length) = cs.take o ++ v :: vs ++ cs.drop (o + (vs.length + 1)) := by
        have ho : o < cs.length := by omega
        rw [List.drop_set_of_lt (by omega), show o + 1 + vs.length = o + (vs.length + 1) by omega]
        congr 1
        rw [List.take_succ_eq_append_getElem (by rw [List.length_set]; omega), List.getElem_set_self, List.take_set_of_le (Nat.le_refl _), List.append_assoc]
        rfl
      rw [e] at h2
      exact h2
theorem blk_setAll {w : World} {b : Nat} {cs vs : List Value} {t : TypeId} (h : Blk w b cs t) (hl : vs.length = cs.length) : Blk (w.setCells b 0 vs) b vs t := by
  rcases Blk.setCells h 0 vs with h1 | h1
  · simpa [hl] using h1
  · omega
theorem blk_setOther {w : World} {b b' : Nat} {cs : List Value} {t : TypeId} (h : Blk w b' cs t) (hb : b' ≠ b) (o : Nat) (vs : List Value) : Blk (w.setCells b o vs) b' cs t := h.move (heap_setCells_other w b o vs b' hb)
theorem size_setCells (w : World) (b o : Nat) (vs : List Value) : (w.setCells b o vs).heap.size = w.heap.size := by
  induction vs generalizing o w with
  | nil => rfl
  | cons v vs ih => rw [World.setCells, ih]; simp [World.setCell]
theorem keep_setCells {S : Nat → Prop} {a w : World} (h : Keep S a w) {b : Nat} (hb : b < a.heap.size → S b) (o : Nat) (vs : List Value) : Keep S a (w.setCells b o vs) := by
  induction vs generalizing o w with
  | nil => exact h
  | cons v vs ih => rw [World.setCells]; exact ih (h.setCell hb v) (o + 1)
theorem below_setCells {B : Nat} {a w : World} (h : Below B a w) {b : Nat} (hb : B ≤ b) (o : Nat) (vs : List Value) : Below B a (w.setCells b o vs) := by
  induction vs generalizing o w with
  | nil => exact h
  | cons v vs ih => rw [World.setCells]; exact ih (h.setCell hb v) (o + 1)
/-- The load, and the store, of an operation that is wanted, guarded or not. -/
theorem wpList_load_w {P : Program} {ops : Array Oper} {rest : List Oper} {op : Oper} {a : Act} {w : World} {Q : Exit → Act → World → Prop} (hw : Region.wanted op (yielded ops a.tmps) = true) (ty : TypeId) (x : Operand) (ho : op.op = .load ty x)
    (b o : Nat) (hx : a.eval x = .pointer (some ⟨b, o, none⟩)) (cs : List Value) (d : TypeDesc) (hc : w.rangeAt b o cs)
    (hu : P.underlying ty = some d) (hd : d.isRow = true) (hi : (P.info? ty).map (·.size) = some cs.length)
    (h : wpList P ops Q rest (a.put op.dst (.agg cs.toArray)) w) : wpList P ops Q (op :: rest) a w :=
  Go.BigFrame.wpList_want hw fun _ hK => wp_load_mid ty x ho b o hx cs d hc hu hd hi (hK _ _ h)
/-- Two new blocks. -/
theorem blocks2 (w : World) (A B : Array Value) (ta tb : TypeId) : ∀ w3, (w.alloc (.cells A ta)).alloc (.cells B tb) = w3 →
    Below w.heap.size w w3 ∧ w3.heap.size = w.heap.size + 2 ∧ Blk w3 w.heap.size A.toList ta ∧ Blk w3 (w.heap.size + 1) B.toList tb := by
  intro w3 h
  subst h
  have e1 : (w.alloc (.cells A ta)).heap.size = w.heap.size + 1 := by simp
  refine ⟨((Below.refl _ _).alloc (Nat.le_refl _) _).alloc (by simp) _, by simp, (Blk.new w A ta).alloc _, ?_⟩
  have h := Blk.new (w.alloc (.cells A ta)) B tb
  rw [e1] at h; exact h
/-- Three new blocks. -/
theorem blocks3 (w : World) (A B C : Array Value) (ta tb tc : TypeId) : ∀ w3, ((w.alloc (.cells A ta)).alloc (.cells B tb)).alloc (.cells C tc) = w3 →
    Below w.heap.size w w3 ∧ w3.heap.size = w.heap.size + 3 ∧ Blk w3 w.heap.size A.toList ta ∧ Blk w3 (w.heap.size + 1) B.toList tb ∧ Blk w3 (w.heap.size + 1 + 1) C.toList tc := by
  intro w3 h
  subst h
  have e1 : (w.alloc (.cells A ta)).heap.size = w.heap.size + 1 := by simp
  have e2 : ((w.alloc (.cells A ta)).alloc (.cells B tb)).heap.size = w.heap.size + 1 + 1 := by simp
  refine ⟨(((Below.refl _ _).alloc (Nat.le_refl _) _).alloc (by simp) _).alloc (by simp; omega) _, by simp, ((Blk.new w A ta).alloc _).alloc _, ?_, ?_⟩
  · have h := (Blk.new (w.alloc (.cells A ta)) B tb).alloc (.cells C tc)
    rw [e1] at h; exact h
  · have h := Blk.new ((w.alloc (.cells A ta)).alloc (.cells B tb)) C tc
    rw [e2] at h; exact h
/-- A new block, and what is stored into it at once. -/
theorem new_stored (w : World) (A : Array Value) (t : TypeId) (vs : List Value) (hl : vs.length = A.size) : ∀ w', (w.alloc (.cells A t)).setCells w.heap.size 0 vs = w' →
    Blk w' w.heap.size vs t ∧ Below w.heap.size w w' ∧ w'.heap.size = w.heap.size + 1 := by
  intro w' h
  subst h
  refine ⟨blk_setAll (Blk.new w A t) (by simpa using hl), below_setCells ((Below.refl _ _).alloc (Nat.le_refl _) _) (Nat.le_refl _) 0 vs, by rw [size_setCells]; simp⟩
/-- An array that is filled from its head on. -/
def fillUp (vs zs : List Value) (k : Nat) : List Value := vs.take k ++ zs.drop k
theorem fillUp_zero (vs zs : List Value) : fillUp vs zs 0 = zs := by simp [fillUp]
theorem fillUp_all {vs zs : List Value} (h : vs.length = zs.length) : fillUp vs zs zs.length = vs := by simp [fillUp, ← h]
theorem fillUp_len {vs zs : List Value} (h : vs.length = zs.length) {k : Nat} (hk : k ≤ zs.length) : (fillUp vs zs k).length = zs.length := by simp [fillUp]; omega
theorem fillUp_get {vs zs : List Value} (h : vs.length = zs.length) {k : Nat} (hk : k < zs.length) : ∃ v, (fillUp vs zs k)[k]? = some v := by
  exact ⟨_, List.getElem?_eq_getElem (by rw [fillUp_len h (Nat.le_of_lt hk)]; exact hk)⟩
theorem fillUp_set {vs zs : List Value} (h : vs.length = zs.length) {k : Nat} (hk : k < zs.length) {v : Value} (hv : vs[k]? = some v) : (fillUp vs zs k).set k v = fillUp vs zs (k + 1) := by
  unfold fillUp
  have hkv : k < vs.length := by omega
  have e : vs[k] = v := by rw [List.getElem?_eq_getElem hkv] at hv; exact Option.some.inj hv
  have hl : (vs.take k).length = k := by rw [List.length_take]; omega
  rw [List.set_append_right _ _ (by omega), hl, Nat.sub_self, List.drop_eq_getElem_cons hk, List.set_cons_zero, List.take_succ_eq_append_getElem hkv, e, List.append_assoc]
  rfl
theorem one_ints (k : IntKind) (l : List Int) : ∀ v ∈ l.map (Value.int k), v.oneCell' = true := by
  intro v hv
  obtain ⟨x, _, rfl⟩ := List.mem_map.1 hv
  rfl
theorem one_bools (l : List Bool) : ∀ v ∈ l.map Value.bool, v.oneCell' = true := by
  intro v hv
  obtain ⟨x, _, rfl⟩ := List.mem_map.1 hv
  rfl
/-- Results: a variable in memory, and a number. -/
theorem results_ct {P : Program} {fn : Func} {p q : Tmp} {ty : TypeId} (h : fn.results = #[.cell p ty, .tmp q]) (tmps : Array Value) (w : World) (g : Nat) (cs : List Value) (d : TypeDesc)
    (hp : tmps.getD p undef = .pointer (some ⟨g, 0, none⟩)) (hg : w.rangeAt g 0 cs)
    (hu : P.underlying ty = some d) (hd : d.isRow = true) (hi : (P.info? ty).map (·.size) = some cs.length) :
    (results fn tmps).run P w = .ok (.tuple #[.agg cs.toArray, tmps.getD q undef]) w := by
  have hp' : tmps[p]?.getD undef = .pointer (some ⟨g, 0, none⟩) := by simpa using hp
  simp [results, h, hp', asAddr, run_loadVar_mid w g 0 ty cs d hg hu hd hi]
end Go.Proofs.Ytpimjioamoaejaa.Arr
