/- What is read of an argument by its type's shape: whole numbers, truths, slices, structs, arrays, in one another. Plain theorems, no statement of its own. -/
import Derived.ProofKit
import Derived.OpenShut
import Derived.Test.YtpimjioamoaejaaHeap
namespace Go.Proofs.Ytpimjioamoaejaa.Aid
open Go Go.RowKit Go.ChangeShapes Go.WideShapes Go.Proofs.Ytpimjioamoaejaa.Heap

/-- A type's shape. -/
inductive Sh where
  | int (k : IntKind)
  | bool
  | slice (e : Sh)
  | nil
  | seq (a b : Sh)
  | rep (n : Nat) (e : Sh)
/-- How many cells. -/
def Sh.size : Sh → Nat
  | .int _ => 1
  | .bool => 1
  | .slice _ => 1
  | .nil => 0
  | .seq a b => a.size + b.size
  | .rep n e => n * e.size
/-- Cells that are of a shape. -/
def Fits (w : World) : Sh → List Value → Prop
  | .int k, cs => ∃ n, cs = [.int k n] ∧ (Lit.int k n).wf = true
  | .bool, cs => ∃ b, cs = [.bool b]
  | .nil, cs => cs = []
  | .seq a b, cs => ∃ xs ys, cs = xs ++ ys ∧ Fits w a xs ∧ Fits w b ys
  | .rep n e, cs => ∃ segs : List (List Value), segs.length = n ∧ cs = segs.flatten ∧ ∀ s ∈ segs, Fits w e s
  | .slice e, cs => cs = [.slice none 0 0] ∨ ∃ (a : Addr) (len cap : Nat) (segs : List (List Value)), cs = [.slice (some a) len cap] ∧ len ≤ cap ∧ cap ≤ maxLen ∧ segs.length = len ∧
      (∀ i s, segs[i]? = some s → w.cells? 0 (a.add (i * e.size)) e.size = some s) ∧ ∀ s ∈ segs, Fits w e s
def shFields (P : Program) (g : TypeId → Option Sh) : Nat → List Field → Option Sh
  | _, [] => some .nil
  | o, f :: r => if f.offset = o then (g f.type).bind fun a => if P.cellsOf f.type = a.size then (shFields P g (o + a.size) r).map (Sh.seq a) else none else none
def shOf (P : Program) : Nat → TypeId → Option Sh
  | 0, _ => none
  | n + 1, t => match P.underlying t with
    | some (.int k) => some (.int k)
    | some .bool => some .bool
    | some (.slice e) => (shOf P n e).bind fun s => if P.cellsOf e = s.size then some (.slice s) else none
    | some (.array m e) => (shOf P n e).bind fun s => if P.cellsOf e = s.size ∧ P.cellsOf t = m * s.size then some (.rep m s) else none
    | some (.struct fs) => (shFields P (shOf P n) 0 fs.toList).bind fun s => if P.cellsOf t = s.size then some s else none
    | _ => none

section
variable {H : Type} {enc : TypeId × Value → H} {P : Program} {w : World} {spare : Nat → Bool} {held : Bool}
theorem fits_fields {g : TypeId → Option Sh} {m : Nat} (hg : ∀ t s, g t = some s → ∀ cs x, DataW.trod enc P w 0 spare held m t cs = some x → Fits w s cs) (cs : List Value) :
    ∀ (l : List Field) (o : Nat) (s : Sh), shFields P g o l = some s → cs.length = o + s.size →
      (∀ f ∈ l, ∃ x, DataW.trod enc P w 0 spare held m f.type ((cs.drop f.offset).take (P.cellsOf f.type)) = some x) → Fits w s (cs.drop o) := by
  intro l
  induction l with
  | nil =>
    intro o s h hl _
    simp only [shFields, Option.some.injEq] at h
    subst h
    simp only [Sh.size] at hl
    simp only [Fits]
    exact List.drop_of_length_le (by omega)
  | cons f r ih =>
    intro o s h hl hx
    simp only [shFields] at h
    split at h
    · rename_i ho
      obtain ⟨a, ha, h⟩ := Option.bind_eq_some_iff.1 h
      split at h
      · rename_i hc
        obtain ⟨b, hb, rfl⟩ := Option.map_eq_some_iff.1 h
        simp only [Sh.size] at hl
        obtain ⟨x, hx1⟩ := hx f (by simp)
        rw [ho, hc] at hx1
        refine ⟨(cs.drop o).take a.size, cs.drop (o + a.size), ?_, hg _ _ ha _ _ hx1, ih _ _ hb (by omega) (fun f' hf' => hx f' (by simp [hf']))⟩
        rw [← List.drop_drop, List.take_append_drop]
      · cases h
    · cases h
theorem flatten_chunks (n k : Nat) : ∀ (cs : List Value), cs.length = n * k → cs = ((List.range n).map fun i => (cs.drop (i * k)).take k).flatten := by
  induction n with
  | zero => intro cs h; simp at h; simp [h]
  | succ n ih =>
    intro cs h
    rw [List.range_succ_eq_map, List.map_cons, List.flatten_cons, List.map_map]
    have h2 := ih (cs.drop k) (by rw [List.length_drop, h, Nat.succ_mul]; omega)
    have e : ((List.range n).map ((fun i => (cs.drop (i * k)).take k) ∘ Nat.succ)) = (List.range n).map fun i => ((cs.drop k).drop (i * k)).take k := by
      apply List.map_congr_left
      intro i _
      simp only [Function.comp, List.drop_drop]
      congr 2
      rw [Nat.succ_mul]; omega
    rw [e, ← h2]
    simp
theorem fits_of_trod : ∀ (n : Nat) (t : TypeId) (s : Sh), shOf P n t = some s → ∀ (fuel : Nat) (cs : List Value) (x : DataW H × List MemPlace), DataW.trod enc P w 0 spare held fuel t cs = some x → Fits w s cs := by
  intro n
  induction n with
  | zero => intro t s h; simp [shOf] at h
  | succ n ih =>
    intro t s h fuel cs x hx
    simp only [shOf] at h
    split at h
    · rename_i k hu
      cases h
      obtain ⟨m, rfl, _, hw⟩ := DataW.trod_int hu hx
      exact ⟨m, rfl, hw⟩
    · rename_i hu
      cases h
      obtain ⟨b, rfl, _⟩ := DataW.trod_bool hu hx
      exact ⟨b, rfl⟩
    · rename_i e hu
      obtain ⟨s', hs, h⟩ := Option.bind_eq_some_iff.1 h
      split at h
      · rename_i hc
        cases h
        rcases DataW.trod_slice hu hx with ⟨rfl, _⟩ | ⟨a, len, cap, elems, rest, m, _, rfl, _, _, hl, hm, hlen, hel, _, _⟩
        · exact .inl rfl
        · have hseg : ∀ i, i < len → ∃ seg, w.cells? 0 (a.add (i * s'.size)) s'.size = some seg ∧ Fits w s' seg := by
            intro i hi
            have h1 := hel i hi
            rw [List.getElem?_eq_getElem (by omega), hc] at h1
            obtain ⟨seg, h2, h3⟩ := Option.bind_eq_some_iff.1 h1
            exact ⟨seg, h2, ih _ _ hs _ _ _ h3⟩
          have hall : ∀ k, k ≤ len → ∃ segs : List (List Value), segs.length = k ∧ (∀ i s, segs[i]? = some s → w.cells? 0 (a.add (i * s'.size)) s'.size = some s) ∧ ∀ s ∈ segs, Fits w s' s := by
            intro k
            induction k with
            | zero => exact fun _ => ⟨[], rfl, fun i s h => by simp at h, fun s h => by cases h⟩
            | succ k ihk =>
              intro hk
              obtain ⟨segs, h1, h2, h3⟩ := ihk (by omega)
              obtain ⟨seg, h4, h5⟩ := hseg k (by omega)
              refine ⟨segs ++ [seg], by simp [h1], fun i s h => ?_, fun s h => ?_⟩
              · by_cases hi : i < k
                · rw [List.getElem?_append_left (by omega)] at h
                  exact h2 i s h
                · have : i = k := by
                    have := (List.getElem?_eq_some_iff.1 h).1
                    simp [h1] at this
                    omega
                  subst this
                  rw [List.getElem?_append_right (by omega), h1, Nat.sub_self] at h
                  simp only [List.getElem?_cons_zero, Option.some.injEq] at h
                  rw [← h]; exact h4
              · simp only [List.mem_append, List.mem_singleton] at h
                rcases h with h | rfl
                · exact h3 s h
                · exact h5
          obtain ⟨segs, h1, h2, h3⟩ := hall len (Nat.le_refl _)
          exact .inr ⟨a, len, cap, segs, rfl, hl, hm, h1, h2, h3⟩
      · cases h
    · rename_i m e hu
      obtain ⟨s', hs, h⟩ := Option.bind_eq_some_iff.1 h
      split at h
      · rename_i hc
        cases h
        obtain ⟨xs, f, _, _, hl, hxl, hel⟩ := DataW.trod_array hu hx
        refine ⟨(List.range m).map fun i => (cs.drop (i * s'.size)).take s'.size, by simp, flatten_chunks m s'.size cs (by rw [hl, hc.2]), fun s h => ?_⟩
        simp only [List.mem_map, List.mem_range] at h
        obtain ⟨i, hi, rfl⟩ := h
        have h1 := hel i hi
        rw [List.getElem?_eq_getElem (by omega), hc.1] at h1
        exact ih _ _ hs _ _ _ h1
      · cases h
    · rename_i fs hu
      obtain ⟨s', hs, h⟩ := Option.bind_eq_some_iff.1 h
      split at h
      · rename_i hc
        cases h
        obtain ⟨xs, f, _, _, hl, hxl, hel⟩ := DataW.trod_struct hu hx
        have := fits_fields (enc := enc) (P := P) (w := w) (spare := spare) (held := held) (m := f) (g := shOf P n) (fun t s h cs x hx => ih t s h _ _ _ hx) cs fs.toList 0 _ hs (by rw [hl, hc]; omega) (fun f' hf' => by
          obtain ⟨i, hi, hf⟩ := List.getElem_of_mem hf'
          have h1 := hel i f' (by rw [← hf]; simp at hi ⊢)
          have hi' : i < xs.length := by rw [hxl]; simpa using hi
          rw [List.getElem?_eq_getElem hi'] at h1
          exact ⟨_, h1⟩)
        exact this
      · cases h
    · cases h
/-- An argument, laid open. -/
theorem open_agg {n : Nat} {t : TypeId} {s : Sh} {v : Value} {d : DataW H} {p : List MemPlace} {r : Reach} {b : Nat} (hs : shOf P n t = some s)
    (hu : (match P.underlying t with | some (.struct _) | some (.array _ _) => true | _ => false) = true) (hv : Value.okWide P w r b t v) (h : DataW.Trod enc P w 0 spare held t v d p) : ∃ cs, v = .agg cs.toArray ∧ Fits w s cs := by
  obtain ⟨f, hf⟩ := h
  have h1 := fits_of_trod n t s hs _ _ _ hf
  unfold Value.okWide at hv
  split at hu
  all_goals first | (rename_i hu'; rw [hu'] at hv; obtain ⟨cs, rfl, _⟩ := hv; exact ⟨cs.toList, rfl, h1⟩) | cases hu
theorem open_sl {n : Nat} {t e : TypeId} {s : Sh} {v : Value} {d : DataW H} {p : List MemPlace} {r : Reach} {b : Nat} (hs : shOf P n t = some s)
    (hu : P.underlying t = some (.slice e)) (hv : Value.okWide P w r b t v) (h : DataW.Trod enc P w 0 spare held t v d p) : Fits w s [v] := by
  obtain ⟨f, hf⟩ := h
  have h1 := fits_of_trod n t s hs _ _ _ hf
  obtain ⟨a, l, c, rfl⟩ := okWide_slice hu hv
  exact h1
end

/-- Whole numbers in a row. -/
theorem fits_ints {w : World} {k : IntKind} {n : Nat} {cs : List Value} (h : Fits w (.rep n (.int k)) cs) : ∃ l : List Int, l.length = n ∧ cs = l.map (Value.int k) ∧ ∀ x ∈ l, (Lit.int k x).wf = true := by
  obtain ⟨segs, h1, rfl, h3⟩ := h
  induction segs generalizing n with
  | nil => exact ⟨[], by simpa using h1, rfl, fun x hx => by cases hx⟩
  | cons s segs ih =>
    obtain ⟨x, rfl, hx⟩ := h3 s (by simp)
    obtain ⟨l, e1, e2, e3⟩ := ih (n := segs.length) rfl (fun s hs => h3 s (by simp [hs]))
    refine ⟨x :: l, by simp [e1, ← h1], by simp [e2], fun y hy => ?_⟩
    simp only [List.mem_cons] at hy
    rcases hy with rfl | hy
    · exact hx
    · exact e3 y hy
theorem fits_bools {w : World} {n : Nat} {cs : List Value} (h : Fits w (.rep n .bool) cs) : ∃ l : List Bool, l.length = n ∧ cs = l.map Value.bool := by
  obtain ⟨segs, h1, rfl, h3⟩ := h
  induction segs generalizing n with
  | nil => exact ⟨[], by simpa using h1, rfl⟩
  | cons s segs ih =>
    obtain ⟨x, rfl⟩ := h3 s (by simp)
    obtain ⟨l, e1, e2⟩ := ih (n := segs.length) rfl (fun s hs => h3 s (by simp [hs]))
    exact ⟨x :: l, by simp [e1, ← h1], by simp [e2]⟩
theorem cells_one {w : World} {a : Addr} {s : List Value} (h : w.cells? 0 a 1 = some s) : ∃ v, s = [v] ∧ w.cell? a = some v := by
  unfold World.cells? at h
  simp only [Nat.zero_le, if_true, List.range_succ, List.range_zero, List.nil_append, List.mapM_cons, List.mapM_nil, Option.pure_def, Option.bind_eq_bind] at h
  obtain ⟨v, hv, h⟩ := Option.bind_eq_some_iff.1 h
  simp only [Option.bind_some, Option.some.injEq] at h
  exact ⟨v, h.symm, by simpa [Addr.add] using hv⟩
/-- A slice of whole numbers. -/
theorem fits_row {w : World} {k : IntKind} {v : Value} (h : Fits w (.slice (.int k)) [v]) : ∃ l : List Int, Row w (Value.int k) v l ∧ l.length ≤ maxLen ∧ ∀ x ∈ l, (Lit.int k x).wf = true := by
  rcases h with h | ⟨a, len, cap, segs, h0, hl, hm, h1, h2, h3⟩
  · simp only [List.cons.injEq, and_true] at h
    exact ⟨[], .inl ⟨h, rfl⟩, by simp, fun x hx => by cases hx⟩
  · simp only [List.cons.injEq, and_true] at h0
    subst h0
    have hall : ∀ segs : List (List Value), (∀ s ∈ segs, Fits w (.int k) s) → ∃ l : List Int, segs = l.map (fun x => [Value.int k x]) ∧ ∀ x ∈ l, (Lit.int k x).wf = true := by
      intro segs
      induction segs with
      | nil => exact fun _ => ⟨[], rfl, fun x hx => by cases hx⟩
      | cons s segs ih =>
        intro h
        obtain ⟨x, rfl, hx⟩ := h s (by simp)
        obtain ⟨l, e2, e3⟩ := ih (fun s hs => h s (by simp [hs]))
        refine ⟨x :: l, by simp [e2], fun y hy => ?_⟩
        simp only [List.mem_cons] at hy
        rcases hy with rfl | hy
        · exact hx
        · exact e3 y hy
    obtain ⟨l, rfl, hw⟩ := hall segs h3
    simp only [List.length_map] at h1
    subst h1
    have hc : ∀ i x, l[i]? = some x → w.cell? (a.add i) = some (.int k x) := by
      intro i x hi
      have := h2 i [.int k x] (by rw [List.getElem?_map, hi]; rfl)
      simp only [Sh.size, Nat.mul_one] at this
      obtain ⟨v, e, hv⟩ := cells_one this
      simp only [List.cons.injEq, and_true] at e
      rw [e]; exact hv
    exact ⟨l, .inr ⟨a, cap, rfl, hl, hc⟩, by omega, hw⟩
/-- A slice of bytes. -/
theorem bytes_row {w : World} {v : Value} (h : Fits w (.slice (.int .u8)) [v]) : ∃ l : List Nat, Row w enc8 v l ∧ (∀ x ∈ l, x < 256) ∧ l.length ≤ maxLen := by
  obtain ⟨l, hr, hm, hl⟩ := fits_row h
  refine ⟨l.map Int.toNat, hr.map (enc' := enc8) Int.toNat (fun y hy => ?_), fun y hy => ?_, by simpa using hm⟩
  · obtain ⟨n, rfl, _⟩ := Bits.wf_u8 (hl y hy)
    rfl
  · obtain ⟨z, hz, rfl⟩ := List.mem_map.1 hy
    obtain ⟨n, rfl, hn⟩ := Bits.wf_u8 (hl z hz)
    simpa using hn
theorem words_row {w : World} {v : Value} (h : Fits w (.slice (.int .u64)) [v]) : ∃ l : List Nat, Row w enc64 v l ∧ (∀ x ∈ l, x < 2 ^ 64) ∧ l.length ≤ maxLen := by
  obtain ⟨l, hr, hm, hl⟩ := fits_row h
  refine ⟨l.map Int.toNat, hr.map (enc' := enc64) Int.toNat (fun y hy => ?_), fun y hy => ?_, by simpa using hm⟩
  · obtain ⟨n, rfl, _⟩ := Bits.wf_u64 (hl y hy)
    rfl
  · obtain ⟨z, hz, rfl⟩ := List.mem_map.1 hy
    obtain ⟨n, rfl, hn⟩ := Bits.wf_u64 (hl z hz)
    simpa using hn
end Go.Proofs.Ytpimjioamoaejaa.Aid
