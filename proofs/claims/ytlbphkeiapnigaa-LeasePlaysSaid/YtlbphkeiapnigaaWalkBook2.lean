/- Walks through the functions of the statement, and the statement over them: each contract says what the call answers and that nothing else changes. -/
import Derived.Test.YtlbphkeiapnigaaProg
import Derived.Test.YtlbphkeiapnigaaBits
import Derived.Test.YtlbphkeiapnigaaHeap
import Derived.Test.YtlbphkeiapnigaaAid
import Derived.Lib.Hide
import Derived.Test.YtlbphkeiapnigaaArr
import Derived.Test.YtlbphkeiapnigaaEql
import Derived.Test.YtlbphkeiapnigaaWalkBook
import Derived.WalkKit
import Derived.WalkSpells
import Derived.WalkLawsBesides
import Derived.Deep.QuietTactic
import Derived.BigQuiet
import Derived.Deep.RegionHeld3
import Derived.Deep.DeepCutAuto
import Derived.Deep.CutBlock
import Derived.Lib.SlBytesConst
import Derived.StillTailTactics
import Derived.IntWalk
namespace Go.Proofs.Ytlbphkeiapnigaa.Walks
set_option linter.unusedVariables false
set_option linter.unusedSimpArgs false
open Go.RowKit Go.Proofs.Ytlbphkeiapnigaa.Bits Go.Proofs.Ytlbphkeiapnigaa.Heap Go.Proofs.Ytlbphkeiapnigaa.Aid Go.Proofs.Ytlbphkeiapnigaa.Arr Go.Proofs.Ytlbphkeiapnigaa.Eql

/-- A call that writes block b alone (of those that were), which then holds these cells. -/
structure Upd (b : Nat) (cs : List Value) (t : TypeId) (w w' : World) : Prop where
  k : Keep (fun i => i = b) w w'
  c : Blk w' b cs t
theorem Upd.same {b : Nat} {cs : List Value} {t : TypeId} {w : World} (h : Blk w b cs t) : Upd b cs t w w := ⟨Keep.refl _ _, h⟩
theorem Upd.drewN {b : Nat} {cs : List Value} {t : TypeId} {w w' : World} (h : Upd b cs t w w') (n : Nat) : Upd b cs t w (w'.drewN n) := ⟨h.k.drewN n, h.c.drewN n⟩
theorem Upd.set {b : Nat} {cs : List Value} {t : TypeId} {w w' : World} (h : Upd b cs t w w') (i : Nat) (v : Value) : Upd b (cs.set i v) t w (w'.setCell ⟨b, i, none⟩ v) :=
  ⟨h.k.setCell (fun _ => rfl) v, h.c.set i v⟩
theorem Upd.setAll {b : Nat} {cs : List Value} {t : TypeId} {w w' : World} (h : Upd b cs t w w') (vs : List Value) (hl : vs.length = cs.length) : Upd b vs t w (w'.setCells b 0 vs) :=
  ⟨keep_setCells h.k (fun _ => rfl) 0 vs, blk_setAll h.c hl⟩
theorem Upd.trans {b : Nat} {cs cs' : List Value} {t t' : TypeId} {w w' w'' : World} (h : Upd b cs t w w') (k : Upd b cs' t' w' w'') : Upd b cs' t' w w'' := ⟨h.k.trans k.k, k.c⟩
theorem Upd.step {b : Nat} {cs : List Value} {t : TypeId} {w w' w'' : World} (h : Upd b cs t w w') (k : Below w'.heap.size w' w'') : Upd b cs t w w'' :=
  ⟨h.k.step (S' := fun _ => False) (Keep.of_below k) (fun _ _ h => h.elim), h.c.below k h.c.lt⟩
theorem Upd.below {b : Nat} {cs : List Value} {t : TypeId} {w0 w w' : World} (h : Upd b cs t w w') (h0 : Below w0.heap.size w0 w) (hb : w0.heap.size ≤ b) : Below w0.heap.size w0 w' :=
  Keep.belowB h0 h.k h0.size (fun i hi e => by omega)
theorem Upd.blk {b b' : Nat} {cs cs' : List Value} {t t' : TypeId} {w w' : World} (h : Upd b cs t w w') (k : Blk w b' cs' t') (hb : b' ≠ b) : Blk w' b' cs' t' := k.keep h.k hb
theorem Inv.upd {w w1 w2 : World} {cs cs' : List Value} {t t' : TypeId} (h : Inv w cs t w1) (u : Upd w.heap.size cs' t' w1 w2) : Inv w cs' t' w2 :=
  ⟨u.below h.b (Nat.le_refl _), u.c, Nat.lt_of_lt_of_le h.z u.k.size⟩
theorem Inv.other {w w1 w2 : World} {cs cs' : List Value} {t t' : TypeId} {b : Nat} (h : Inv w cs t w1) (u : Upd b cs' t' w1 w2) (hb : w.heap.size < b) : Inv w cs t w2 :=
  ⟨u.below h.b (Nat.le_of_lt hb), u.blk h.k (by omega), Nat.lt_of_lt_of_le h.z u.k.size⟩
/-- A block of the call's own (made since w) that holds these cells; nothing that was there at w has changed. -/
structure Own (w : World) (b : Nat) (cs : List Value) (t : TypeId) (w' : World) : Prop where
  bel : Below w.heap.size w w'
  n : w.heap.size ≤ b
  k : Blk w' b cs t
theorem Own.lt {w w1 : World} {b : Nat} {cs : List Value} {t : TypeId} (h : Own w b cs t w1) : b < w1.heap.size := h.k.lt
theorem Own.new {w w1 : World} (hb : Below w.heap.size w w1) (A : Array Value) (t : TypeId) : Own w w1.heap.size A.toList t (w1.alloc (.cells A t)) :=
  ⟨hb.alloc hb.size _, hb.size, Blk.new w1 _ _⟩
theorem Own.newL {w w1 : World} (hb : Below w.heap.size w w1) (cs : List Value) (t : TypeId) : Own w w1.heap.size cs t (w1.alloc (.cells cs.toArray t)) := Own.new hb cs.toArray t
theorem Own.alloc {w w1 : World} {b : Nat} {cs : List Value} {t : TypeId} (h : Own w b cs t w1) (o : Obj) : Own w b cs t (w1.alloc o) := ⟨h.bel.alloc h.bel.size _, h.n, h.k.alloc o⟩
theorem Own.step {w w1 w2 : World} {b : Nat} {cs : List Value} {t : TypeId} (h : Own w b cs t w1) (hb : Below w1.heap.size w1 w2) : Own w b cs t w2 :=
  ⟨h.bel.trans (hb.mono h.bel.size), h.n, h.k.below hb h.lt⟩
theorem Own.drewN {w w1 : World} {b : Nat} {cs : List Value} {t : TypeId} (h : Own w b cs t w1) (m : Nat) : Own w b cs t (w1.drewN m) := ⟨below_drewN h.bel m, h.n, h.k.drewN m⟩
theorem Own.set {w w1 : World} {b : Nat} {cs : List Value} {t : TypeId} (h : Own w b cs t w1) (k : Nat) (v : Value) : Own w b (cs.set k v) t (w1.setCell ⟨b, k, none⟩ v) :=
  ⟨h.bel.setCell h.n v, h.n, h.k.set k v⟩
theorem Own.setAll {w w1 : World} {b : Nat} {cs : List Value} {t : TypeId} (h : Own w b cs t w1) (vs : List Value) (hl : vs.length = cs.length) : Own w b vs t (w1.setCells b 0 vs) :=
  ⟨below_setCells h.bel h.n 0 vs, h.n, blk_setAll h.k hl⟩
theorem Own.setO {w w1 : World} {b b' : Nat} {cs : List Value} {t : TypeId} (h : Own w b cs t w1) (hb : b' ≠ b) (hn : w.heap.size ≤ b') (k : Nat) (v : Value) : Own w b cs t (w1.setCell ⟨b', k, none⟩ v) :=
  ⟨h.bel.setCell hn v, h.n, h.k.other hb v⟩
theorem Own.setAllO {w w1 : World} {b b' : Nat} {cs : List Value} {t : TypeId} (h : Own w b cs t w1) (hb : b' ≠ b) (hn : w.heap.size ≤ b') (o : Nat) (vs : List Value) : Own w b cs t (w1.setCells b' o vs) :=
  ⟨below_setCells h.bel hn o vs, h.n, blk_setOther h.k (Ne.symm hb) o vs⟩
theorem Own.upd {w w1 w2 : World} {b : Nat} {cs cs' : List Value} {t t' : TypeId} (h : Own w b cs t w1) (u : Upd b cs' t' w1 w2) : Own w b cs' t' w2 := ⟨u.below h.bel h.n, h.n, u.c⟩
theorem Own.updO {w w1 w2 : World} {b b' : Nat} {cs cs' : List Value} {t t' : TypeId} (h : Own w b cs t w1) (hb : b' ≠ b) (hn : w.heap.size ≤ b') (u : Upd b' cs' t' w1 w2) : Own w b cs t w2 := ⟨u.below h.bel hn, h.n, u.blk h.k (Ne.symm hb)⟩
theorem Own.cell {w w1 : World} {b : Nat} {cs : List Value} {t : TypeId} (h : Own w b cs t w1) {i : Nat} {v : Value} (hv : cs[i]? = some v) : w1.cell? ⟨b, i, none⟩ = some v := h.k.cellAt hv
theorem Own.fro {w w1 : World} {b : Nat} {cs : List Value} {t : TypeId} (h : Own w b cs t w1) (i : Nat) : w1.frozen? ⟨b, i, none⟩ = false := h.k.unfrozen i
theorem Own.all {w w1 : World} {b : Nat} {cs : List Value} {t : TypeId} (h : Own w b cs t w1) : w1.rangeAt b 0 cs := range_all h.k
theorem Own.there {w w1 : World} {b : Nat} {cs : List Value} {t : TypeId} (h : Own w b cs t w1) {n : Nat} (hn : n ≤ cs.length) : w1.there b 0 n := there_of_blk h.k (by omega)
theorem Own.drew' {w w1 w2 : World} {b : Nat} {cs : List Value} {t : TypeId} (h : Own w b cs t w1) (hm : ∃ n, w2 = w1.drewN n) : Own w b cs t w2 := by
  obtain ⟨n, rfl⟩ := hm
  exact h.drewN n
/-- An element of several cells, of an array's value. -/
theorem run_index_seg {P : Program} (w : World) {T E : TypeId} {n s : Nat} {d : TypeDesc} {cs seg : List Value} {i : Nat} {k : IntKind} (hu : P.underlying T = some (.array n E)) (he : P.underlying E = some d) (hd : d.isRow = true)
    (hs : (P.info? E).map (·.size) = some s) (hi : i < n) (hg : (cs.drop (i * s)).take s = seg) : (Instr.index T (.agg cs.toArray) (.int k (i : Int))).run P w = .ok (.agg seg.toArray) w := by
  have hagg : (isAgg E).run P w = .ok true w := by
    unfold isAgg
    rw [Sem.run_bind, run_underlying he w]
    cases d <;> simp_all
  cases hq : P.info? E with
  | none => simp [hq] at hs
  | some j =>
    have hs' : j.size = s := by simpa [hq] using hs
    simp [Instr.index, Sem.run_bind, asIntOf, run_underlying hu w, part, hagg, sizeOf, typeInfo, hq, hs', hi]
    exact hg
/-- The first that is so. -/
def fnd (p : Le → Bool) : List Le → Nat
  | [] => 0
  | x :: r => if p x = true then 0 else fnd p r + 1
theorem fnd_le (p : Le → Bool) (b : List Le) : fnd p b ≤ b.length := by
  induction b with
  | nil => exact Nat.le_refl _
  | cons x r ih => rw [fnd]; split <;> simp <;> omega
theorem fnd_step {p : Le → Bool} {b : List Le} {k : Nat} {x : Le} (hk : k ≤ fnd p b) (hx : b[k]? = some x) : (p x = true → fnd p b = k) ∧ (p x = false → k + 1 ≤ fnd p b) := by
  induction b generalizing k with
  | nil => simp at hx
  | cons y r ih =>
    rw [fnd] at hk ⊢
    cases k with
    | zero =>
      simp only [List.getElem?_cons_zero, Option.some.injEq] at hx
      subst hx
      exact ⟨fun h => by rw [if_pos h], fun h => by rw [if_neg (by rw [h]; simp)]; omega⟩
    | succ k =>
      simp only [List.getElem?_cons_succ] at hx
      by_cases hy : p y = true
      · rw [if_pos hy] at hk; omega
      · rw [if_neg hy] at hk ⊢
        have h := ih (by omega) hx
        exact ⟨fun hp => by rw [h.1 hp], fun hp => by have := h.2 hp; omega⟩
theorem fnd_spec (p : Le → Bool) (b : List Le) : ∀ i x, b[i]? = some x → (i < fnd p b → p x = false) ∧ (i = fnd p b → p x = true) := by
  induction b with
  | nil => intro i x h; simp at h
  | cons y r ih =>
    intro i x h
    rw [fnd]
    by_cases hy : p y = true
    · rw [if_pos hy]
      refine ⟨fun hi => by omega, fun hi => ?_⟩
      subst hi
      simp only [List.getElem?_cons_zero, Option.some.injEq] at h
      rw [← h]; exact hy
    · rw [if_neg hy]
      cases i with
      | zero =>
        simp only [List.getElem?_cons_zero, Option.some.injEq] at h
        refine ⟨fun _ => by rw [← h]; simpa using hy, fun hi => by omega⟩
      | succ i =>
        simp only [List.getElem?_cons_succ] at h
        have h1 := ih i x h
        exact ⟨fun hi => h1.1 (by omega), fun hi => h1.2 (by omega)⟩
theorem info_book {b : List Le} (hb : b.length = 16) : (Try.prog.info? 25).map (·.size) = some (bookCells b).length := by rw [bookCells_length, hb, size96]
theorem index_book {b : List Le} (hb : b.length = 16) {k : Nat} {x : Le} (hx : b[k]? = some x) (w : World) : (Instr.index 25 (.agg (bookCells b).toArray) (.int .i64 (k : Int))).run Try.prog w = .ok (.agg #[.bool x.on, .int .i64 x.fr, .int .i64 x.page, .int .i64 x.too, .bool x.wr, .int .i64 x.at_]) w := by
  have hk : k < 16 := by
    rcases Nat.lt_or_ge k b.length with h1 | h1
    · omega
    · rw [List.getElem?_eq_none h1] at hx; cases hx
  exact run_index_seg w Try.underlying25 Try.underlying23 rfl size6 hk (by rw [Nat.mul_comm]; exact bookCells_seg b hx)
def atP (vm page : Int) (x : Le) : Bool := x.on && (decide (x.too = vm) && (decide (x.at_ = page) && decide (0 ≤ page)))
def atL (b : List Le) (vm page : Int) : Int := if fnd (atP vm page) b < 16 then ((fnd (atP vm page) b : Nat) : Int) else -1
set_option maxHeartbeats 2000000 in
theorem at_calls (b : List Le) (vm page : Int) (hb : b.length = 16) (w : World) :
    Calls Try.prog 13 #[.agg (bookCells b).toArray, .int .i64 vm, .int .i64 page] w fun e w' => e = .returned (.int .i64 (atL b vm page)) ∧ Below w.heap.size w w' := by
  have IB := Lib.hid (info_book hb)
  have IX := Lib.hid (fun (k : Nat) (x : Le) (hx : b[k]? = some x) (w : World) => index_book hb hx w)
  have FS := Lib.hid (fun (k : Nat) (x : Le) (hk : k ≤ fnd (atP vm page) b) (hx : b[k]? = some x) => fnd_step hk hx)
  have FL := Lib.hid (show fnd (atP vm page) b ≤ 16 by have := fnd_le (atP vm page) b; omega)
  have AP := Lib.hid (fun x => show atP vm page x = (x.on && (decide (x.too = vm) && (decide (x.at_ = page) && decide (0 ≤ page)))) from rfl)
  have AL := Lib.hid (show atL b vm page = if fnd (atP vm page) b < 16 then ((fnd (atP vm page) b : Nat) : Int) else -1 from rfl)
  generalize atL b vm page = res at *
  generalize fnd (atP vm page) b = nf at *
  generalize atP vm page = P at *
  have X1 := Lib.hid (Own.newL (Below.refl _ w) (bookCells b) 25)
  generalize bookCells b = BC at *
  go_enter Try.func13, Try.ntmps13
  go_upto_region 1 with (fail)
  generalize w.alloc (.cells BC.toArray 25) = w1 at *
  go_wp2_with (refine wpList_load_mid rfl 25 (.tmp 3) rfl w.heap.size 0 rfl BC _ X1.out.all Try.underlying25 rfl IB.out ?_)
  go_loopw [10] (fun i wr => ∃ k : Nat, k ≤ 16 ∧ i = .int .i64 k ∧ k ≤ nf ∧ Own w w.heap.size BC 25 wr) (fun i _ => 16 - (intOf i).toNat)
  case atStart => exact ⟨0, by omega, rfl, Nat.zero_le _, X1.out⟩
  case round =>
    clear X1
    obtain ⟨k, hk, rfl, hn, o1⟩ := hrel
    have X2 := Lib.hid o1
    have HN := Lib.hid hn
    clear o1 hn
    by_cases hlt : k < 16
    · obtain ⟨x, hx⟩ : ∃ x, b[k]? = some x := ⟨_, List.getElem?_eq_getElem (by omega)⟩
      have hk0 : 0 ≤ (k : Int) := by omega
      have hki : (k : Int) < 16 := by omega
      have ix := IX.out k x hx
      obtain ⟨s1, s2⟩ := FS.out k x HN.out hx
      have S1 := Lib.hid s1
      have S2 := Lib.hid s2
      have A1 := AP.out x
      obtain ⟨on, fr, pg, too, wrt, at_⟩ := x
      simp only at ix A1
      have A2 := Lib.hid A1
      clear s1 s2 hx A1
      go_upto_region 4 with (fail)
      have Y3 := Lib.hid (Own.new X2.out.bel #[.bool on, .int .i64 fr, .int .i64 pg, .int .i64 too, .bool wrt, .int .i64 at_] 23)
      have X3 := Lib.hid (X2.out.alloc (.cells #[.bool on, .int .i64 fr, .int .i64 pg, .int .i64 too, .bool wrt, .int .i64 at_] 23))
      generalize wr.alloc (.cells #[.bool on, .int .i64 fr, .int .i64 pg, .int .i64 too, .bool wrt, .int .i64 at_] 23) = w3 at *
      have c0 := Y3.out.cell (i := 0) rfl
      have c3 := Y3.out.cell (i := 3) rfl
      have c5 := Y3.out.cell (i := 5) rfl
      clear ix
      by_cases hall : on = true ∧ too = vm ∧ at_ = page ∧ 0 ≤ page
      · obtain ⟨rfl, rfl, rfl, hp⟩ := hall
        have hn := S1.out (by rw [A2.out]; simp [hp])
        have hr : res = (k : Int) := by rw [AL.out, hn, if_pos hlt]
        have HR := Lib.hid hr
        have hd : decide (0 ≤ at_) = true := decide_eq_true hp
        clear hn hr AL
        go_wp2_with fail
        go_ret
        exact ⟨ret_int HR.out.symm, X3.out.bel⟩
      · have hn := S2.out (by
          rw [A2.out]
          cases on
          · rfl
          · by_cases h1 : too = vm
            · by_cases h2 : at_ = page
              · have h3 : ¬ 0 ≤ page := fun h => hall ⟨rfl, h1, h2, h⟩
                rw [decide_eq_false h3]; simp
              · rw [decide_eq_false h2]; simp
            · rw [decide_eq_false h1]; simp)
        have HN2 := Lib.hid hn
        clear hn HN
        cases on with
        | false =>
          clear hall
          go_wp2_with fail
          go_roundw
          case rel => exact ⟨k + 1, by omega, by go_num, HN2.out, X3.out⟩
          case measure => simp [intOf]; omega
        | true =>
          by_cases h1 : too = vm
          · subst h1
            by_cases h2 : at_ = page
            · subst h2
              have h3 : decide (0 ≤ at_) = false := decide_eq_false (fun h => hall ⟨rfl, rfl, rfl, h⟩)
              clear hall
              go_wp2_with fail
              go_roundw
              case rel => exact ⟨k + 1, by omega, by go_num, HN2.out, X3.out⟩
              case measure => simp [intOf]; omega
            · have h3 : decide (at_ = page) = false := decide_eq_false h2
              have h4 : (at_ == page) = false := by simp [h2]
              clear hall h2
              go_wp2_with fail
              go_roundw
              case rel => exact ⟨k + 1, by omega, by go_num, HN2.out, X3.out⟩
              case measure => simp [intOf]; omega
          · have h3 : decide (too = vm) = false := decide_eq_false h1
            have h4 : (too == vm) = false := by simp [h1]
            clear hall h1
            go_wp2_with fail
            go_roundw
            case rel => exact ⟨k + 1, by omega, by go_num, HN2.out, X3.out⟩
            case measure => simp [intOf]; omega
    · obtain rfl : k = 16 := by omega
      have hr : res = -1 := by rw [AL.out, if_neg (by have := HN.out; omega)]
      have HR := Lib.hid hr
      clear hr AL
      go_wp2_with fail
      go_ret
      exact ⟨ret_int HR.out.symm, X2.out.bel⟩
/-- Results: a variable in memory, and two more. -/
theorem results_ctt {P : Program} {fn : Func} {p q q2 : Tmp} {ty : TypeId} (h : fn.results = #[.cell p ty, .tmp q, .tmp q2]) (tmps : Array Value) (w : World) (g : Nat) (cs : List Value) (d : TypeDesc)
    (hp : tmps.getD p undef = .pointer (some ⟨g, 0, none⟩)) (hg : w.rangeAt g 0 cs)
    (hu : P.underlying ty = some d) (hd : d.isRow = true) (hi : (P.info? ty).map (·.size) = some cs.length) :
    (results fn tmps).run P w = .ok (.tuple #[.agg cs.toArray, tmps.getD q undef, tmps.getD q2 undef]) w := by
  have hp' : tmps[p]?.getD undef = .pointer (some ⟨g, 0, none⟩) := by simpa using hp
  simp [results, h, hp', asAddr, run_loadVar_mid w g 0 ty cs d hg hu hd hi]
def offerL (b : List Le) (fr page too : Int) (wr : Bool) : List Le × Int × Int :=
  if rightL fr page = false ∨ rightL too 0 = false ∨ fr = too then (b, 0, 1)
  else if fnd (fun x => !x.on) b < 16 then (b.set (fnd (fun x => !x.on) b) ⟨true, fr, page, too, wr, -1⟩, ((fnd (fun x => !x.on) b : Nat) : Int), 0) else (b, 0, 3)
theorem offerL_length (b : List Le) (fr page too : Int) (wr : Bool) (hb : b.length = 16) : (offerL b fr page too wr).1.length = 16 := by
  unfold offerL
  split
  · exact hb
  · split <;> simp [hb]
theorem Own.setSeg {w w1 : World} {b : Nat} {cs : List Value} {t : TypeId} (h : Own w b cs t w1) (o : Nat) (vs : List Value) (hl : o + vs.length ≤ cs.length) : Own w b (cs.take o ++ vs ++ cs.drop (o + vs.length)) t (w1.setCells b o vs) :=
  ⟨below_setCells h.bel h.n o vs, h.n, by
    rcases Blk.setCells h.k o vs with k | k
    · exact k
    · omega⟩
set_option maxHeartbeats 4000000 in
theorem offer_calls (b : List Le) (fr page too : Int) (wrt : Bool) (hb : b.length = 16) (w : World) :
    Calls Try.prog 9 #[.agg (bookCells b).toArray, .int .i64 fr, .int .i64 page, .int .i64 too, .bool wrt] w fun e w' => e = .returned (.tuple #[.agg (bookCells (offerL b fr page too wrt).1).toArray, .int .i64 (offerL b fr page too wrt).2.1, .int .i64 (offerL b fr page too wrt).2.2]) ∧ Below w.heap.size w w' := by
  have HL := Lib.hid (show (bookCells b).length = 96 by rw [bookCells_length, hb])
  have IB := Lib.hid (info_book hb)
  have OB := Lib.hid (bookCells_one b)
  have IX := Lib.hid (fun (k : Nat) (x : Le) (hx : b[k]? = some x) (w : World) => index_book hb hx w)
  have FS := Lib.hid (fun (k : Nat) (x : Le) (hk : k ≤ fnd (fun x => !x.on) b) (hx : b[k]? = some x) => fnd_step hk hx)
  have SET := Lib.hid (fun (k : Nat) (hk : k < 16) (x : Le) => show (bookCells b).take (k * 6) ++ x.cells ++ (bookCells b).drop (k * 6 + x.cells.length) = bookCells (b.set k x) by
    have h := bookCells_set b x (show k < b.length by omega)
    rw [Nat.mul_comm] at h
    exact h)
  have OS := Lib.hid (fun (k : Nat) (x : Le) => bookCells_one (b.set k x))
  have LS := Lib.hid (fun (k : Nat) (x : Le) => show (bookCells (b.set k x)).length = 96 by rw [bookCells_length, List.length_set, hb])
  have AL := Lib.hid (show offerL b fr page too wrt = if rightL fr page = false ∨ rightL too 0 = false ∨ fr = too then (b, 0, 1)
    else if fnd (fun x => !x.on) b < 16 then (b.set (fnd (fun x => !x.on) b) ⟨true, fr, page, too, wrt, -1⟩, ((fnd (fun x => !x.on) b : Nat) : Int), 0) else (b, 0, 3) from rfl)
  generalize offerL b fr page too wrt = res at *
  generalize fnd (fun x => !x.on) b = nf at *
  obtain ⟨ZC, hZC⟩ : ∃ ZC, zeroCells = ZC := ⟨_, rfl⟩
  have hz : ∀ w, (zeroValue 25).run Try.prog w = .ok (.agg ZC.toArray) w := by rw [← hZC]; exact zero_book
  have hzl : ZC.length = 96 := by rw [← hZC]; exact zeroCells_length
  have hzs : ZC.toArray.size = 96 := by simpa using hzl
  have hzn : ¬ ZC.toArray = #[] := fun h => by rw [h] at hzs; simp at hzs
  have HZL := Lib.hid hzl
  clear hzl hZC
  have HRF := Lib.hid (fun w => right_calls fr page w)
  have HRT := Lib.hid (fun w => right_calls too 0 w)
  generalize hBC : bookCells b = BC at *
  have HB := Lib.hid hBC
  have X1 := Lib.hid (Own.newL (Below.refl _ w) BC 25)
  have T1 := Lib.hid (Own.newL X1.out.bel ZC 25)
  have X2 := Lib.hid (X1.out.alloc (.cells ZC.toArray 25))
  have NE := Lib.hid (show w.heap.size ≠ (w.alloc (.cells BC.toArray 25)).heap.size from Nat.ne_of_lt X1.out.lt)
  have z1 : (w.alloc (.cells BC.toArray 25)).heap.size = w.heap.size + 1 := by simp
  rw [z1] at T1 NE
  clear z1 X1 hBC
  go_enter Try.func9, Try.ntmps9
  go_upto_region 1 with (fail)
  generalize (w.alloc (.cells BC.toArray 25)).alloc _ = w2 at *
  generalize w.heap.size + 1 = N10 at *
  have SZ := Lib.hid (T1.out.setAll BC (by rw [HL.out, HZL.out]))
  by_cases hbad : rightL fr page = false ∨ rightL too 0 = false ∨ fr = too
  · have HR : Hid (res = (b, 0, 1)) := by show res = _; rw [AL.out, if_pos hbad]
    rcases Bool.eq_false_or_eq_true (rightL fr page) with h1 | h1
    · rcases Bool.eq_false_or_eq_true (rightL too 0) with h2 | h2
      · have h3 : fr = too := by
          rcases hbad with h | h | h
          · rw [h] at h1; cases h1
          · rw [h] at h2; cases h2
          · exact h
        rw [h1] at HRF
        rw [h2] at HRT
        subst h3
        clear hbad h1 h2 AL
        go_wp2_with (first | refine wpList_load_mid rfl 25 (.tmp 5) rfl w.heap.size 0 rfl BC _ X2.out.all Try.underlying25 rfl IB.out ?_ | (go_at_call 15; (with_reducible refine (HRF.out _).mono ?_); rintro e w3 ⟨rfl, rfl⟩) | (go_at_call 15; (with_reducible refine (HRT.out _).mono ?_); rintro e w3 ⟨rfl, rfl⟩) | refine wpList_store_mid rfl 25 (.tmp 10) (.tmp 29) rfl N10 0 BC.toArray rfl rfl (T1.out.there ?s1) ?s2 ?s3 ?_)
        case s1 => have h1 := HL.out; have h2 := HZL.out; simp; omega
        case s2 => simpa using IB.out
        case s3 => first | exact OB.out | exact all_oneCell_toArray OB.out
        refine bodyPost_ret (v := .tuple #[.agg BC.toArray, .int .i64 0, .int .i64 1]) (results_ctt Try.results9 _ _ N10 BC _ rfl SZ.out.all Try.underlying25 rfl IB.out) rfl ⟨by rw [HR.out, HB.out], SZ.out.bel⟩
      · rw [h1] at HRF
        rw [h2] at HRT
        clear hbad h1 h2 AL
        go_wp2_with (first | refine wpList_load_mid rfl 25 (.tmp 5) rfl w.heap.size 0 rfl BC _ X2.out.all Try.underlying25 rfl IB.out ?_ | (go_at_call 15; (with_reducible refine (HRF.out _).mono ?_); rintro e w3 ⟨rfl, rfl⟩) | (go_at_call 15; (with_reducible refine (HRT.out _).mono ?_); rintro e w3 ⟨rfl, rfl⟩) | refine wpList_store_mid rfl 25 (.tmp 10) (.tmp 29) rfl N10 0 BC.toArray rfl rfl (T1.out.there ?s1) ?s2 ?s3 ?_)
        case s1 => have h1 := HL.out; have h2 := HZL.out; simp; omega
        case s2 => simpa using IB.out
        case s3 => first | exact OB.out | exact all_oneCell_toArray OB.out
        refine bodyPost_ret (v := .tuple #[.agg BC.toArray, .int .i64 0, .int .i64 1]) (results_ctt Try.results9 _ _ N10 BC _ rfl SZ.out.all Try.underlying25 rfl IB.out) rfl ⟨by rw [HR.out, HB.out], SZ.out.bel⟩
    · rw [h1] at HRF
      clear hbad h1 AL
      go_wp2_with (first | refine wpList_load_mid rfl 25 (.tmp 5) rfl w.heap.size 0 rfl BC _ X2.out.all Try.underlying25 rfl IB.out ?_ | (go_at_call 15; (with_reducible refine (HRF.out _).mono ?_); rintro e w3 ⟨rfl, rfl⟩) | (go_at_call 15; (with_reducible refine (HRT.out _).mono ?_); rintro e w3 ⟨rfl, rfl⟩) | refine wpList_store_mid rfl 25 (.tmp 10) (.tmp 29) rfl N10 0 BC.toArray rfl rfl (T1.out.there ?s1) ?s2 ?s3 ?_)
      case s1 => have h1 := HL.out; have h2 := HZL.out; simp; omega
      case s2 => simpa using IB.out
      case s3 => first | exact OB.out | exact all_oneCell_toArray OB.out
      refine bodyPost_ret (v := .tuple #[.agg BC.toArray, .int .i64 0, .int .i64 1]) (results_ctt Try.results9 _ _ N10 BC _ rfl SZ.out.all Try.underlying25 rfl IB.out) rfl ⟨by rw [HR.out, HB.out], SZ.out.bel⟩
  · have g1 : rightL fr page = true := by cases h : rightL fr page with | true => rfl | false => exact absurd (.inl h) hbad
    have g2 : rightL too 0 = true := by cases h : rightL too 0 with | true => rfl | false => exact absurd (.inr (.inl h)) hbad
    have g3 : ¬ fr = too := fun h => hbad (.inr (.inr h))
    have AL2 := Lib.hid (AL.out.trans (if_neg hbad))
    have g4 : (fr == too) = false := beq_false_of_ne g3
    rw [g1] at HRF
    rw [g2] at HRT
    clear hbad g1 g2 AL
    go_wp2_with (first | refine wpList_load_mid rfl 25 (.tmp 5) rfl w.heap.size 0 rfl BC _ X2.out.all Try.underlying25 rfl IB.out ?_ | (go_at_call 15; (with_reducible refine (HRF.out _).mono ?_); rintro e w3 ⟨rfl, rfl⟩) | (go_at_call 15; (with_reducible refine (HRT.out _).mono ?_); rintro e w3 ⟨rfl, rfl⟩))
    go_loopw [31] (fun i wr => ∃ k : Nat, k ≤ 16 ∧ i = .int .i64 k ∧ k ≤ nf ∧ Own w w.heap.size BC 25 wr ∧ Own w N10 ZC 25 wr) (fun i _ => 16 - (intOf i).toNat)
    case atStart => exact ⟨0, by omega, rfl, Nat.zero_le _, X2.out, T1.out⟩
    case round =>
      clear X2 T1 SZ HRF HRT
      obtain ⟨k, hk, rfl, hn, o1, o2⟩ := hrel
      have X2 := Lib.hid o1
      have T2 := Lib.hid o2
      have HN := Lib.hid hn
      clear o1 o2 hn
      by_cases hlt : k < 16
      · obtain ⟨x, hx⟩ : ∃ x, b[k]? = some x := ⟨_, List.getElem?_eq_getElem (by omega)⟩
        have hk0 : 0 ≤ (k : Int) := by omega
        have hki : (k : Int) < 16 := by omega
        have ix := IX.out k x hx
        obtain ⟨s1, s2⟩ := FS.out k x HN.out hx
        have S1 := Lib.hid s1
        have S2 := Lib.hid s2
        obtain ⟨on, fr0, pg0, too0, wr0, at0⟩ := x
        simp only at ix
        clear s1 s2 hx
        go_upto_region 6 with (fail)
        have Y3 := Lib.hid (Own.new X2.out.bel #[.bool on, .int .i64 fr0, .int .i64 pg0, .int .i64 too0, .bool wr0, .int .i64 at0] 23)
        have X3 := Lib.hid (X2.out.alloc (.cells #[.bool on, .int .i64 fr0, .int .i64 pg0, .int .i64 too0, .bool wr0, .int .i64 at0] 23))
        have T3 := Lib.hid (T2.out.alloc (.cells #[.bool on, .int .i64 fr0, .int .i64 pg0, .int .i64 too0, .bool wr0, .int .i64 at0] 23))
        generalize wr.alloc (.cells #[.bool on, .int .i64 fr0, .int .i64 pg0, .int .i64 too0, .bool wr0, .int .i64 at0] 23) = w3 at *
        have c0 := Y3.out.cell (i := 0) rfl
        clear ix
        cases on with
        | true =>
          have hn := S2.out rfl
          have HN2 := Lib.hid hn
          clear hn
          go_wp2_with fail
          go_roundw
          case rel => exact ⟨k + 1, by omega, by go_num, HN2.out, X3.out, T3.out⟩
          case measure => simp [intOf]; omega
        | false =>
          have hn := S1.out rfl
          have HR : Hid (res = (b.set k ⟨true, fr, page, too, wrt, -1⟩, ((k : Nat) : Int), 0)) := by show res = _; rw [AL2.out, hn, if_pos hlt]
          clear hn S1 S2 HN
          have I6 := Lib.hid size6
          have hth : Hid (w3.there w.heap.size (k * 6) 6) := there_of_blk X3.out.k (by have := HL.out; omega)
          have X4 := Lib.hid (X3.out.setSeg (k * 6) (Le.mk true fr page too wrt (-1)).cells (by have := HL.out; simp only [Le.cells, List.length_cons, List.length_nil]; omega))
          have T4 := Lib.hid (T3.out.setAllO NE.out X3.out.n (k * 6) (Le.mk true fr page too wrt (-1)).cells)
          rw [SET.out k hlt] at X4
          have ON := Lib.hid (OS.out k ⟨true, fr, page, too, wrt, -1⟩)
          have LN := Lib.hid (LS.out k ⟨true, fr, page, too, wrt, -1⟩)
          generalize hNC : bookCells (b.set k ⟨true, fr, page, too, wrt, -1⟩) = NC at *
          have HNC := Lib.hid hNC
          have IN := Lib.hid (show (Try.prog.info? 25).map (·.size) = some NC.length by rw [LN.out, size96])
          clear hNC SET OS LS
          go_upto_region 8 with (refine wpList_store_mid rfl 23 (.tmp 44) (.tmp 43) rfl w.heap.size (k * 6) (Le.mk true fr page too wrt (-1)).cells.toArray rfl rfl hth.out (by simpa [Le.cells] using I6.out) (by simp [Le.cells, Value.oneCell']) ?_)
          generalize World.setCells _ _ _ _ = w4 at *
          have SZ := Lib.hid (T4.out.setAll NC (by rw [LN.out, HZL.out]))
          go_wp2_with (first | refine wpList_load_mid rfl 25 (.tmp 5) rfl w.heap.size 0 rfl NC _ X4.out.all Try.underlying25 rfl IN.out ?_ | refine wpList_store_mid rfl 25 (.tmp 10) (.tmp 45) rfl N10 0 NC.toArray rfl rfl (T4.out.there ?s1) ?s2 ?s3 ?_)
          case s1 => have h1 := LN.out; have h2 := HZL.out; simp; omega
          case s2 => simpa using IN.out
          case s3 => first | exact ON.out | exact all_oneCell_toArray ON.out
          refine bodyPost_ret (v := .tuple #[.agg NC.toArray, .int .i64 (k : Int), .int .i64 0]) (results_ctt Try.results9 _ _ N10 NC _ rfl SZ.out.all Try.underlying25 rfl IN.out) rfl ⟨by rw [HR.out]; show _ = Ending.returned (.tuple #[.agg (bookCells (b.set k _)).toArray, _, _]); rw [HNC.out], SZ.out.bel⟩
      · obtain rfl : k = 16 := by omega
        have HR : Hid (res = (b, 0, 3)) := by show res = _; rw [AL2.out, if_neg (by have := HN.out; omega)]
        have SZ := Lib.hid (T2.out.setAll BC (by rw [HL.out, HZL.out]))
        go_wp2_with (first | refine wpList_load_mid rfl 25 (.tmp 5) rfl w.heap.size 0 rfl BC _ X2.out.all Try.underlying25 rfl IB.out ?_ | refine wpList_store_mid rfl 25 (.tmp 10) (.tmp 48) rfl N10 0 BC.toArray rfl rfl (T2.out.there ?s1) ?s2 ?s3 ?_)
        case s1 => have h1 := HL.out; have h2 := HZL.out; simp; omega
        case s2 => simpa using IB.out
        case s3 => first | exact OB.out | exact all_oneCell_toArray OB.out
        refine bodyPost_ret (v := .tuple #[.agg BC.toArray, .int .i64 0, .int .i64 3]) (results_ctt Try.results9 _ _ N10 BC _ rfl SZ.out.all Try.underlying25 rfl IB.out) rfl ⟨by rw [HR.out, HB.out], SZ.out.bel⟩
def dropL (b : List Le) (n : Int) : List Le := if 0 ≤ n ∧ n < 16 then b.set n.toNat zeroLe else b
theorem length_of_cells {b : List Le} {n : Nat} (h : b.length = 16) : (bookCells b).length = 96 := by rw [bookCells_length, h]
theorem acceptL_length (b : List Le) (n vm at_ : Int) (hb : b.length = 16) : (acceptL b n vm at_).1.length = 16 := by
  unfold acceptL; repeat' split
  all_goals first | exact hb | simp [hb]
theorem withdrawL_length (b : List Le) (n vm : Int) (hb : b.length = 16) : (withdrawL b n vm).1.length = 16 := by
  unfold withdrawL; repeat' split
  all_goals first | exact hb | simp [hb]
theorem leaveL_length (b : List Le) (n vm : Int) (hb : b.length = 16) : (leaveL b n vm).1.length = 16 := by
  unfold leaveL; repeat' split
  all_goals first | exact hb | simp [hb]
theorem zeroBook_length : zeroBook.length = 16 := rfl
theorem dropL_length (b : List Le) (n : Int) (hb : b.length = 16) : (dropL b n).length = 16 := by
  unfold dropL; split <;> simp [hb]
set_option maxHeartbeats 2000000 in
theorem drop_calls (b : List Le) (n : Int) (hb : b.length = 16) (w : World) :
    Calls Try.prog 14 #[.agg (bookCells b).toArray, .int .i64 n] w fun e w' => e = .returned (.agg (bookCells (dropL b n)).toArray) ∧ Below w.heap.size w w' := by
  have HL := Lib.hid (show (bookCells b).length = 96 by rw [bookCells_length, hb])
  have IB := Lib.hid (info_book hb)
  have OB := Lib.hid (bookCells_one b)
  have SET := Lib.hid (fun (k : Nat) (hk : k < 16) (x : Le) => show (bookCells b).take (k * 6) ++ x.cells ++ (bookCells b).drop (k * 6 + x.cells.length) = bookCells (b.set k x) by
    have h := bookCells_set b x (show k < b.length by omega)
    rw [Nat.mul_comm] at h
    exact h)
  have OS := Lib.hid (fun (k : Nat) (x : Le) => bookCells_one (b.set k x))
  have LS := Lib.hid (fun (k : Nat) (x : Le) => show (bookCells (b.set k x)).length = 96 by rw [bookCells_length, List.length_set, hb])
  have AL := Lib.hid (show dropL b n = if 0 ≤ n ∧ n < 16 then b.set n.toNat zeroLe else b from rfl)
  generalize dropL b n = res at *
  obtain ⟨ZC, hZC⟩ : ∃ ZC, zeroCells = ZC := ⟨_, rfl⟩
  have hz : ∀ w, (zeroValue 25).run Try.prog w = .ok (.agg ZC.toArray) w := by rw [← hZC]; exact zero_book
  have hzl : ZC.length = 96 := by rw [← hZC]; exact zeroCells_length
  have hzs : ZC.toArray.size = 96 := by simpa using hzl
  have hzn : ¬ ZC.toArray = #[] := fun h => by rw [h] at hzs; simp at hzs
  have HZL := Lib.hid hzl
  clear hzl hZC
  generalize hBC : bookCells b = BC at *
  have HB := Lib.hid hBC
  have X1 := Lib.hid (Own.newL (Below.refl _ w) BC 25)
  have T1 := Lib.hid (Own.newL X1.out.bel ZC 25)
  have X2 := Lib.hid (X1.out.alloc (.cells ZC.toArray 25))
  have NE := Lib.hid (show w.heap.size ≠ (w.alloc (.cells BC.toArray 25)).heap.size from Nat.ne_of_lt X1.out.lt)
  have z1 : (w.alloc (.cells BC.toArray 25)).heap.size = w.heap.size + 1 := by simp
  rw [z1] at T1 NE
  clear z1 X1 hBC
  go_enter Try.func14, Try.ntmps14
  go_upto_region 1 with (fail)
  generalize (w.alloc (.cells BC.toArray 25)).alloc _ = w2 at *
  generalize w.heap.size + 1 = N10 at *
  by_cases h : 0 ≤ n ∧ n < 16
  · obtain ⟨k, rfl⟩ := Int.eq_ofNat_of_zero_le h.1
    have hlt : k < 16 := by omega
    have hk0 : 0 ≤ (k : Int) := by omega
    have hki : (k : Int) < 16 := by omega
    have HR : Hid (res = b.set k zeroLe) := by show res = _; rw [AL.out, if_pos h]; rfl
    have I6 := Lib.hid size6
    have hth : Hid (w2.there w.heap.size (k * 6) 6) := there_of_blk X2.out.k (by have := HL.out; omega)
    have X4 := Lib.hid (X2.out.setSeg (k * 6) zeroLe.cells (by have := HL.out; simp only [zeroLe, Le.cells, List.length_cons, List.length_nil]; omega))
    have T4 := Lib.hid (T1.out.setAllO NE.out X2.out.n (k * 6) zeroLe.cells)
    rw [SET.out k hlt] at X4
    have ON := Lib.hid (OS.out k zeroLe)
    have LN := Lib.hid (LS.out k zeroLe)
    generalize hNC : bookCells (b.set k zeroLe) = NC at *
    have HNC := Lib.hid hNC
    have IN := Lib.hid (show (Try.prog.info? 25).map (·.size) = some NC.length by rw [LN.out, size96])
    clear hNC SET OS LS h
    go_upto_region 3 with (refine wpList_store_mid rfl 23 (.tmp 13) (.tmp 12) rfl w.heap.size (k * 6) zeroLe.cells.toArray rfl rfl hth.out (by simpa [Le.cells, zeroLe] using I6.out) (by simp [Le.cells, zeroLe, Value.oneCell']) ?_)
    generalize World.setCells _ _ _ _ = w4 at *
    have SZ := Lib.hid (T4.out.setAll NC (by rw [LN.out, HZL.out]))
    go_wp2_with (first | refine wpList_load_mid rfl 25 (.tmp 2) rfl w.heap.size 0 rfl NC _ X4.out.all Try.underlying25 rfl IN.out ?_ | refine wpList_store_mid rfl 25 (.tmp 4) (.tmp 14) rfl N10 0 NC.toArray rfl rfl (T4.out.there ?s1) ?s2 ?s3 ?_)
    case s1 => have h1 := LN.out; have h2 := HZL.out; simp; omega
    case s2 => simpa using IN.out
    case s3 => first | exact ON.out | exact all_oneCell_toArray ON.out
    refine bodyPost_ret (v := .agg NC.toArray) (results_cell_row Try.results14 _ _ N10 _ NC.toArray _ _ rfl SZ.out.k Try.underlying25 rfl (by simpa using IN.out)) rfl ⟨by rw [HR.out, HNC.out], SZ.out.bel⟩
  · have HR : Hid (res = b) := by show res = _; rw [AL.out, if_neg h]
    have SZ := Lib.hid (T1.out.setAll BC (by rw [HL.out, HZL.out]))
    by_cases h0 : n < 0
    · have d1 : ¬ 0 ≤ n := by omega
      go_wp2_with (first | refine wpList_load_mid rfl 25 (.tmp 2) rfl w.heap.size 0 rfl BC _ X2.out.all Try.underlying25 rfl IB.out ?_ | refine wpList_store_mid rfl 25 (.tmp 4) (.tmp 14) rfl N10 0 BC.toArray rfl rfl (T1.out.there ?s1) ?s2 ?s3 ?_)
      case s1 => have h1 := HL.out; have h2 := HZL.out; simp; omega
      case s2 => simpa using IB.out
      case s3 => first | exact OB.out | exact all_oneCell_toArray OB.out
      refine bodyPost_ret (v := .agg BC.toArray) (results_cell_row Try.results14 _ _ N10 _ BC.toArray _ _ rfl SZ.out.k Try.underlying25 rfl (by simpa using IB.out)) rfl ⟨by rw [HR.out, HB.out], SZ.out.bel⟩
    · have d1 : 0 ≤ n := by omega
      have d2 : ¬ n < 16 := by omega
      go_wp2_with (first | refine wpList_load_mid rfl 25 (.tmp 2) rfl w.heap.size 0 rfl BC _ X2.out.all Try.underlying25 rfl IB.out ?_ | refine wpList_store_mid rfl 25 (.tmp 4) (.tmp 14) rfl N10 0 BC.toArray rfl rfl (T1.out.there ?s1) ?s2 ?s3 ?_)
      case s1 => have h1 := HL.out; have h2 := HZL.out; simp; omega
      case s2 => simpa using IB.out
      case s3 => first | exact OB.out | exact all_oneCell_toArray OB.out
      refine bodyPost_ret (v := .agg BC.toArray) (results_cell_row Try.results14 _ _ N10 _ BC.toArray _ _ rfl SZ.out.k Try.underlying25 rfl (by simpa using IB.out)) rfl ⟨by rw [HR.out, HB.out], SZ.out.bel⟩
end Go.Proofs.Ytlbphkeiapnigaa.Walks
