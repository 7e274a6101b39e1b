/- Whether two structs, or arrays, of whole numbers and truths are one: told by their cells. -/
import Derived.WalkKit
import Derived.Laws.StructEq
import Derived.Deep.MidRow
import Derived.Test.YtpimjioamoaejaaAid
namespace Go.Proofs.Ytpimjioamoaejaa.Eql
open Go Go.RowKit Go.Proofs.Ytpimjioamoaejaa.Heap Go.Proofs.Ytpimjioamoaejaa.Aid

/-- Types that '==' takes apart: no pointer, no slice, no field without a name. -/
def eqFieldsSh (P : Program) (g : TypeId → Option Sh) : Nat → List Field → Option Sh
  | _, [] => some .nil
  | o, f :: r => if f.offset = o ∧ (f.name == "_") = false then (g f.type).bind fun a => if P.cellsOf f.type = a.size then (eqFieldsSh P g (o + a.size) r).map (Sh.seq a) else none else none
def eqSh (P : Program) : Nat → TypeId → Option Sh
  | 0, _ => none
  | n + 1, t => match P.underlying t with
    | some (.int k) => some (.int k)
    | some .bool => some .bool
    | some (.array m e) => (eqSh P n e).bind fun s => if P.cellsOf e = s.size ∧ P.cellsOf t = m * s.size then some (.rep m s) else none
    | some (.struct fs) => if P.stoodInHeld t = false then (eqFieldsSh P (eqSh P n) 0 fs.toList).bind fun s => if P.cellsOf t = s.size then some s else none else none
    | _ => none
theorem fits_size {w : World} : ∀ (s : Sh) (cs : List Value), Fits w s cs → cs.length = s.size := by
  intro s
  induction s with
  | int k => rintro cs ⟨n, rfl, _⟩; rfl
  | bool => rintro cs ⟨b, rfl⟩; rfl
  | slice e _ => rintro cs (rfl | ⟨a, l, c, _, rfl, _⟩) <;> rfl
  | nil => intro cs h; simp only [Fits] at h; subst h; rfl
  | seq a b iha ihb => rintro cs ⟨xs, ys, rfl, h1, h2⟩; simp [Sh.size, iha _ h1, ihb _ h2]
  | rep n e ih =>
    rintro cs ⟨segs, h1, rfl, h3⟩
    subst h1
    induction segs with
    | nil => simp [Sh.size]
    | cons x l ihl =>
      have := ihl (fun s hs => h3 s (by simp [hs]))
      simp only [Sh.size] at this ⊢
      rw [List.flatten_cons, List.length_append, this, ih x (h3 x (by simp)), List.length_cons, Nat.succ_mul, Nat.add_comm]

theorem flatten_inj {α : Type} {n : Nat} : ∀ (sx sy : List (List α)), sx.length = sy.length → (∀ q ∈ sx, q.length = n) → (∀ q ∈ sy, q.length = n) → sx.flatten = sy.flatten → sx = sy := by
  intro sx
  induction sx with
  | nil => intro sy hl _ _ _; cases sy with | nil => rfl | cons => simp at hl
  | cons a sx ih =>
    intro sy hl hx hy h
    cases sy with
    | nil => simp at hl
    | cons c sy =>
      rw [List.flatten_cons, List.flatten_cons] at h
      obtain ⟨h1, h2⟩ := List.append_inj h (by rw [hx a (by simp), hy c (by simp)])
      rw [h1, ih sy (by simpa using hl) (fun q hq => hx q (by simp [hq])) (fun q hq => hy q (by simp [hq])) h2]
/-- A value out of its cells, by its type. -/
def cellVal (P : Program) (t : TypeId) (cs : List Value) : Value :=
  match P.underlying t with
  | some (.struct _) | some (.array _ _) => .agg cs.toArray
  | _ => cs.headD undef
section
variable {P : Program}
theorem run_part {w w0 : World} {n : Nat} {t : TypeId} {s : Sh} (hs : eqSh P n t = some s) (hz : P.cellsOf t = s.size) (cs : List Value) (off : Nat) {seg : List Value} (hseg : (cs.drop off).take s.size = seg) (hf : Fits w0 s seg) :
    (part t cs.toArray off).run P w = .ok (cellVal P t seg) w := by
  have hinfo : ∀ i, P.info? t = some i → i.size = s.size := fun i hi => by
    rw [← hz]; simp [Program.cellsOf, hi]
  cases n with
  | zero => simp [eqSh] at hs
  | succ n =>
    simp only [eqSh] at hs
    have agg : ∀ d, P.underlying t = some d → d.isRow = true → (part t cs.toArray off).run P w = .ok (.agg seg.toArray) w := by
      intro d hu hd
      have hagg : (isAgg t).run P w = .ok true w := by
        unfold isAgg
        rw [Sem.run_bind, run_underlying hu w]
        cases d <;> simp_all
      have hsome : ∃ i, P.info? t = some i := by
        cases hi : P.info? t with
        | some i => exact ⟨i, rfl⟩
        | none => simp [Program.underlying, hi] at hu
      obtain ⟨i, hi⟩ := hsome
      simp only [part, Sem.run_bind, hagg, Result.andThen_ok, if_true, sizeOf, typeInfo, run_program, hi, Sem.run_pure, hinfo i hi]
      congr 1
      rw [← hseg]
      simp [List.extract_toArray, List.extract_eq_take_drop]
    have one : ∀ d v, P.underlying t = some d → d.isRow = false → s.size = 1 → seg = [v] → (part t cs.toArray off).run P w = .ok v w := by
      intro d v hu hd h1 hv
      have hagg : (isAgg t).run P w = .ok false w := by
        unfold isAgg
        rw [Sem.run_bind, run_underlying hu w]
        cases d <;> simp_all
      have hoff : cs[off]? = some v := by
        rw [h1, hv] at hseg
        have : ((cs.drop off).take 1)[0]? = some v := by rw [hseg]; rfl
        rw [List.getElem?_take_of_lt (by omega), List.getElem?_drop] at this
        exact this
      simp [part, Sem.run_bind, hagg, hoff]
    split at hs
    · rename_i k hu
      cases hs
      obtain ⟨m, rfl, _⟩ := hf
      rw [one _ (.int k m) hu rfl rfl rfl]; simp [cellVal, hu]
    · rename_i hu
      cases hs
      obtain ⟨b, rfl⟩ := hf
      rw [one _ (.bool b) hu rfl rfl rfl]; simp [cellVal, hu]
    · rename_i m e hu
      rw [agg _ hu rfl]; simp [cellVal, hu]
    · rename_i fs hu
      rw [agg _ hu rfl]; simp [cellVal, hu]
    · cases hs
theorem fields_equal {w w0 : World} {n d : Nat}
    (ih : ∀ t s, eqSh P n t = some s → ∀ xs ys, Fits w0 s xs → Fits w0 s ys → ∃ b : Bool, (Op.equalIn d t (cellVal P t xs) (cellVal P t ys)).run P w = .ok b w ∧ (b = true ↔ xs = ys)) (xs ys : List Value) :
    ∀ (l : List Field) (o : Nat) (s : Sh), eqFieldsSh P (eqSh P n) o l = some s → Fits w0 s (xs.drop o) → Fits w0 s (ys.drop o) →
      ∃ b : Bool, (Op.eqFields d xs.toArray ys.toArray l).run P w = .ok b w ∧ (b = true ↔ xs.drop o = ys.drop o) := by
  intro l
  induction l with
  | nil =>
    intro o s h hx hy
    simp only [eqFieldsSh, Option.some.injEq] at h
    subst h
    simp only [Fits] at hx hy
    exact ⟨true, by simp [Op.eqFields], by rw [hx, hy]; simp⟩
  | cons f r ihl =>
    intro o s h hx hy
    simp only [eqFieldsSh] at h
    split at h
    · rename_i ho
      obtain ⟨a, ha, h⟩ := Option.bind_eq_some_iff.1 h
      split at h
      · rename_i hc
        obtain ⟨b, hb, rfl⟩ := Option.map_eq_some_iff.1 h
        obtain ⟨x1, x2, ex, hx1, hx2⟩ := hx
        obtain ⟨y1, y2, ey, hy1, hy2⟩ := hy
        have lx := fits_size _ _ hx1
        have ly := fits_size _ _ hy1
        have sx : (xs.drop f.offset).take a.size = x1 := by rw [ho.1, ex, ← lx, List.take_left]
        have sy : (ys.drop f.offset).take a.size = y1 := by rw [ho.1, ey, ← ly, List.take_left]
        have dx : xs.drop (o + a.size) = x2 := by rw [← List.drop_drop, ex, ← lx, List.drop_left]
        have dy : ys.drop (o + a.size) = y2 := by rw [← List.drop_drop, ey, ← ly, List.drop_left]
        obtain ⟨q, hq, hqe⟩ := ih _ _ ha x1 y1 hx1 hy1
        obtain ⟨q2, hq2, hqe2⟩ := ihl (o + a.size) b hb (by rw [dx]; exact hx2) (by rw [dy]; exact hy2)
        rw [dx, dy] at hqe2
        have hn : f.name ≠ "_" := fun e => by have := ho.2; rw [e] at this; simp at this
        refine ⟨q && q2, ?_, ?_⟩
        · simp only [Op.eqFields, if_pos hn, Sem.run_bind, run_part ha hc xs f.offset sx hx1, run_part ha hc ys f.offset sy hy1, Result.andThen_ok, hq]
          cases q
          · simp
          · simp [hq2]
        · rw [ex, ey, Bool.and_eq_true, hqe, hqe2]
          constructor
          · rintro ⟨rfl, rfl⟩; rfl
          · intro h
            have := List.append_inj h (by rw [lx, ly])
            exact this
      · cases h
    · cases h
theorem segs_equal {w w0 : World} {n d : Nat} {e : TypeId} {s : Sh} (hs : eqSh P n e = some s) (hc : P.cellsOf e = s.size)
    (ih : ∀ xs ys, Fits w0 s xs → Fits w0 s ys → ∃ b : Bool, (Op.equalIn d e (cellVal P e xs) (cellVal P e ys)).run P w = .ok b w ∧ (b = true ↔ xs = ys)) (xs ys : List Value) :
    ∀ (sx sy : List (List Value)) (o : Nat), sx.length = sy.length → xs.drop (o * s.size) = sx.flatten → ys.drop (o * s.size) = sy.flatten → (∀ q ∈ sx, Fits w0 s q) → (∀ q ∈ sy, Fits w0 s q) →
      ∃ b : Bool, (forIn (List.range' o sx.length) ((none, ()) : Option Bool × PUnit) (fun i _ => do
        let a ← part e xs.toArray (i * s.size)
        let c ← part e ys.toArray (i * s.size)
        let r ← Op.equalIn d e a c
        if (!r) = true then pure (ForInStep.done (some false, ())) else pure (ForInStep.yield (none, ()))) : Sem (Option Bool × PUnit)).run P w = .ok (if b then (none, ()) else (some false, ())) w ∧ (b = true ↔ sx = sy) := by
  intro sx
  induction sx with
  | nil =>
    intro sy o hl _ _ _ _
    have : sy = [] := by cases sy with | nil => rfl | cons => simp at hl
    subst this
    exact ⟨true, by simp, by simp⟩
  | cons a sx ihl =>
    intro sy o hl ex ey hx hy
    cases sy with
    | nil => simp at hl
    | cons c sy =>
      have ha := hx a (by simp)
      have hc' := hy c (by simp)
      have la := fits_size _ _ ha
      have lc := fits_size _ _ hc'
      have qa : (xs.drop (o * s.size)).take s.size = a := by rw [ex, List.flatten_cons, ← la, List.take_left]
      have qc : (ys.drop (o * s.size)).take s.size = c := by rw [ey, List.flatten_cons, ← lc, List.take_left]
      have dx : xs.drop ((o + 1) * s.size) = sx.flatten := by rw [Nat.succ_mul, ← List.drop_drop, ex, List.flatten_cons, ← la, List.drop_left]
      have dy : ys.drop ((o + 1) * s.size) = sy.flatten := by rw [Nat.succ_mul, ← List.drop_drop, ey, List.flatten_cons, ← lc, List.drop_left]
      obtain ⟨q, hq, hqe⟩ := ih a c ha hc'
      obtain ⟨q2, hq2, hqe2⟩ := ihl sy (o + 1) (by simpa using hl) dx dy (fun z hz => hx z (by simp [hz])) (fun z hz => hy z (by simp [hz]))
      refine ⟨q && q2, ?_, ?_⟩
      · rw [List.length_cons, List.range'_succ, List.forIn_cons]
        simp only [Sem.run_bind, run_part hs hc xs _ qa ha, run_part hs hc ys _ qc hc', Result.andThen_ok, hq]
        cases q
        · simp
        · simp only [Bool.not_true, Bool.false_eq_true, if_false, Sem.run_pure, Result.andThen_ok, Bool.true_and]
          exact hq2
      · rw [Bool.and_eq_true, hqe, hqe2]
        simp
theorem run_equal {w w0 : World} : ∀ (n : Nat) (t : TypeId) (s : Sh), eqSh P n t = some s → ∀ (d : Nat), n ≤ d → ∀ xs ys, Fits w0 s xs → Fits w0 s ys →
    ∃ b : Bool, (Op.equalIn d t (cellVal P t xs) (cellVal P t ys)).run P w = .ok b w ∧ (b = true ↔ xs = ys) := by
  intro n
  induction n with
  | zero => intro t s h; simp [eqSh] at h
  | succ n ih =>
    intro t s h d hd xs ys hx hy
    obtain ⟨d, rfl⟩ : ∃ m, d = m + 1 := ⟨d - 1, by omega⟩
    simp only [eqSh] at h
    split at h
    · rename_i k hu
      cases h
      obtain ⟨a, rfl, _⟩ := hx
      obtain ⟨c, rfl, _⟩ := hy
      refine ⟨a == c, ?_, by simp⟩
      simp only [cellVal, hu, List.headD_cons]
      exact run_equalIn_int w d t k k a c hu
    · rename_i hu
      cases h
      obtain ⟨a, rfl⟩ := hx
      obtain ⟨c, rfl⟩ := hy
      refine ⟨a == c, ?_, by simp⟩
      simp only [cellVal, hu, List.headD_cons]
      exact run_equalIn_bool' w d t a c hu
    · rename_i m e hu
      obtain ⟨s', hs, h⟩ := Option.bind_eq_some_iff.1 h
      split at h
      · rename_i hc
        cases h
        obtain ⟨sx, l1, rfl, f1⟩ := hx
        obtain ⟨sy, l2, rfl, f2⟩ := hy
        obtain ⟨b, hb, hbe⟩ := segs_equal hs hc.1 (fun xs ys => ih e s' hs d (by omega) xs ys) sx.flatten sy.flatten sx sy 0 (by omega) (by simp) (by simp) f1 f2
        have hsz : ∃ i, P.info? e = some i ∧ i.size = s'.size := by
          cases hi : P.info? e with
          | some i => exact ⟨i, rfl, by rw [← hc.1]; simp [Program.cellsOf, hi]⟩
          | none => cases n with
            | zero => simp [eqSh] at hs
            | succ n => simp [eqSh, Program.underlying, hi] at hs
        obtain ⟨i, hi, hiz⟩ := hsz
        refine ⟨b, ?_, ?_⟩
        · simp only [cellVal, hu, Op.equalIn, Sem.run_bind, run_underlying hu w, Result.andThen_ok, sizeOf, typeInfo, run_program, hi, Sem.run_pure, hiz]
          rw [Std.Legacy.Range.forIn_eq_forIn_range']
          have e1 : (Std.Legacy.Range.mk 0 m 1 (by omega)).size = m := by simp [Std.Legacy.Range.size]
          rw [show List.range' (Std.Legacy.Range.mk 0 m 1 (by omega)).start (Std.Legacy.Range.mk 0 m 1 (by omega)).size (Std.Legacy.Range.mk 0 m 1 (by omega)).step = List.range' 0 sx.length by rw [e1, l1], hb]
          cases b <;> simp
        · rw [hbe]
          constructor
          · rintro rfl; rfl
          · exact flatten_inj sx sy (by omega) (fun q hq => fits_size _ _ (f1 q hq)) (fun q hq => fits_size _ _ (f2 q hq))
      · cases h
    · rename_i fs hu
      split at h
      · rename_i hp
        obtain ⟨s', hs, h⟩ := Option.bind_eq_some_iff.1 h
        split at h
        · cases h
          have hfo : P.fieldsOf t = fs := by simp [Program.fieldsOf, hu]
          obtain ⟨b, hb, hbe⟩ := fields_equal (P := P) (w := w) (w0 := w0) (n := n) (d := d) (fun t s h xs ys => ih t s h d (by omega) xs ys) xs ys fs.toList 0 _ hs hx hy
          refine ⟨b, ?_, hbe⟩
          simp only [cellVal, hu]
          rw [run_equalIn_struct w d t _ _ (by rw [hfo]; exact hu) hp, hfo]
          exact hb
        · cases h
      · cases h
    · cases h
theorem run_eql_agg {w w0 : World} {n : Nat} {t : TypeId} {s : Sh} (hs : eqSh P n t = some s) (hn : n ≤ 10000) (hu : (match P.underlying t with | some (.struct _) | some (.array _ _) => true | _ => false) = true) {xs ys : List Value} (hx : Fits w0 s xs) (hy : Fits w0 s ys) :
    ∃ b : Bool, (binOp .eql t (.agg xs.toArray) (.agg ys.toArray)).run P w = .ok (.bool b) w ∧ (binOp .neq t (.agg xs.toArray) (.agg ys.toArray)).run P w = .ok (.bool (!b)) w ∧ (b = true ↔ xs = ys) := by
  obtain ⟨b, hb, hbe⟩ := run_equal (w := w) n t s hs 10000 hn xs ys hx hy
  have e : ∀ cs : List Value, cellVal P t cs = .agg cs.toArray := fun cs => by
    unfold cellVal
    split at hu
    all_goals first | rfl | cases hu
  rw [e, e] at hb
  refine ⟨b, ?_, ?_, hbe⟩
  · rw [run_eql_struct, hb]; rfl
  · rw [run_neq_struct, hb]; rfl
theorem eql_same {w w0 : World} {n : Nat} {t : TypeId} {s : Sh} (hs : eqSh P n t = some s) (hn : n ≤ 10000) (hu : (match P.underlying t with | some (.struct _) | some (.array _ _) => true | _ => false) = true) {xs : List Value} (hx : Fits w0 s xs) :
    (binOp .eql t (.agg xs.toArray) (.agg xs.toArray)).run P w = .ok (.bool true) w ∧ (binOp .neq t (.agg xs.toArray) (.agg xs.toArray)).run P w = .ok (.bool false) w := by
  obtain ⟨b, h1, h2, h3⟩ := run_eql_agg (w := w) hs hn hu hx hx
  have : b = true := h3.2 rfl
  subst this
  exact ⟨h1, h2⟩
theorem eql_other {w w0 : World} {n : Nat} {t : TypeId} {s : Sh} (hs : eqSh P n t = some s) (hn : n ≤ 10000) (hu : (match P.underlying t with | some (.struct _) | some (.array _ _) => true | _ => false) = true) {xs ys : List Value} (hx : Fits w0 s xs) (hy : Fits w0 s ys) (hne : xs ≠ ys) :
    (binOp .eql t (.agg xs.toArray) (.agg ys.toArray)).run P w = .ok (.bool false) w ∧ (binOp .neq t (.agg xs.toArray) (.agg ys.toArray)).run P w = .ok (.bool true) w := by
  obtain ⟨b, h1, h2, h3⟩ := run_eql_agg (w := w) hs hn hu hx hy
  have : b = false := by cases b with | false => rfl | true => exact absurd (h3.1 rfl) hne
  subst this
  exact ⟨h1, h2⟩
/-- Whole numbers in a row fit. -/
theorem fits_mk_ints {w : World} {k : IntKind} (l : List Int) (h : ∀ x ∈ l, (Lit.int k x).wf = true) : Fits w (.rep l.length (.int k)) (l.map (Value.int k)) := by
  refine ⟨l.map fun x => [Value.int k x], by simp, ?_, fun s hs => ?_⟩
  · induction l with
    | nil => rfl
    | cons x l ih => simp [ih (fun y hy => h y (by simp [hy]))]
  · obtain ⟨x, hx, rfl⟩ := List.mem_map.1 hs
    exact ⟨x, rfl, h x hx⟩
end
end Go.Proofs.Ytpimjioamoaejaa.Eql
