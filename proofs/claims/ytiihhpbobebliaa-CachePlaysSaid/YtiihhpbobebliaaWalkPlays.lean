/- Walks through the functions of the statement, and the statement over them: each contract says what the call answers and that nothing else changes. -/
import Derived.Test.YtiihhpbobebliaaProg


import Derived.Laws.BytesString
import Derived.Test.YtiihhpbobebliaaBits
import Derived.Test.YtiihhpbobebliaaHeap
import Derived.Test.YtiihhpbobebliaaAid
import Derived.Lib.Hide
import Derived.Test.YtiihhpbobebliaaArr
import Derived.Test.YtiihhpbobebliaaEql
import Derived.Test.YtiihhpbobebliaaWalkCa
import Derived.Test.YtiihhpbobebliaaWalkPut
import Derived.Test.YtiihhpbobebliaaWalkLaw
import Derived.WalkKit
import Derived.WalkSpells
import Derived.WalkLawsBesides
import Derived.Deep.QuietTactic
import Derived.BigQuiet
import Derived.Deep.RegionHeld3
import Derived.Deep.DeepCutAuto
import Derived.Deep.CutBlock
import Derived.Lib.SlBytesConst
import Derived.StillTailTactics

import Derived.Deep.RegionLaw
import Derived.Laws.MakeOwn
import Derived.Deep.AppendLies
import Derived.Laws.CopyOwn
import Derived.RegionTactic
import Derived.Great.Walk
namespace Go.Proofs.Ytiihhpbobebliaa.Walks
set_option linter.unusedVariables false
set_option linter.unusedSimpArgs false
open Go.RowKit Go.Proofs.Ytiihhpbobebliaa.Bits Go.Proofs.Ytiihhpbobebliaa.Heap Go.Proofs.Ytiihhpbobebliaa.Aid Go.Proofs.Ytiihhpbobebliaa.Arr Go.Proofs.Ytiihhpbobebliaa.Eql

/-- A slice of elements of several cells, in whatever later world. -/
theorem rowS_of {w : World} {e : Sh} {v : Value} (h : Fits w (.slice e) [v]) (h0 : 0 < e.size) : ∃ (a : Option Addr) (cap : Nat) (segs : List (List Value)), v = .slice a segs.length cap ∧ segs.length ≤ cap ∧ cap ≤ maxLen ∧ (∀ s ∈ segs, Fits w e s) ∧
    ∀ (i : Nat) (s : List Value), segs[i]? = some s → ∃ b off, a = some ⟨b, off, none⟩ ∧ ∀ wx, Below w.heap.size w wx → wx.rangeAt b (off + i * e.size) s := by
  rcases h with h | ⟨a, len, cap, segs, h1, hl, hm, h2, h3, h4⟩
  · simp only [List.cons.injEq, and_true] at h
    exact ⟨none, 0, [], h, Nat.le_refl _, Nat.zero_le _, (fun s hs => by cases hs), (fun i s hs => by simp at hs)⟩
  · simp only [List.cons.injEq, and_true] at h1
    refine ⟨some a, cap, segs, by rw [h1, h2], by omega, hm, h4, fun i s hs => ?_⟩
    have hlt : i < segs.length := by
      rcases Nat.lt_or_ge i segs.length with h | h
      · exact h
      · rw [List.getElem?_eq_none h] at hs; cases hs
    have hx : segs[0]? = some segs[0] := List.getElem?_eq_getElem (by omega)
    obtain ⟨_, hn0, hc0⟩ := World.cells?_some (h3 0 _ hx)
    have hspot : a.spot = none := by
      have h5 := hc0 0 h0
      rw [Nat.zero_mul] at h5
      have h6 : w.cell? a = segs[0][0]? := h5
      rw [List.getElem?_eq_getElem (by omega)] at h6
      unfold World.cell? at h6
      split at h6
      · split at h6
        · cases h6
        · rename_i hsp
          cases hq : a.spot with
          | none => rfl
          | some q => rw [hq] at hsp; simp at hsp
      · cases h6
    obtain ⟨b, off, sp⟩ := a
    simp only at hspot
    subst hspot
    refine ⟨b, off, rfl, fun wx hb j u hu => ?_⟩
    obtain ⟨_, hn, hc⟩ := World.cells?_some (h3 i s hs)
    have hj : j < e.size := by
      rw [← hn]
      rcases Nat.lt_or_ge j s.length with h | h
      · exact h
      · rw [List.getElem?_eq_none h] at hu; cases hu
    have h7 := hc j hj
    have ea : ((⟨b, off, none⟩ : Addr).add (i * e.size)).add j = ⟨b, off + i * e.size + j, none⟩ := by
      unfold Addr.add
      by_cases h8 : i * e.size = 0
      · rw [if_pos h8]
        by_cases h9 : j = 0
        · rw [if_pos h9, h8, h9]; rfl
        · rw [if_neg h9, h8]; rfl
      · rw [if_neg h8]
        by_cases h9 : j = 0
        · rw [if_pos h9, h9]; rfl
        · rw [if_neg h9]
    rw [ea, hu] at h7
    rw [hb.cell (World.block_lt_of_cell? w _ h7), h7]
theorem wf_i64_mk {a : Int} (h : -9223372036854775808 ≤ a ∧ a ≤ 9223372036854775807) : (Lit.int .i64 a).wf = true := by
  simp [Lit.wf, IntKind.min, IntKind.max, IntKind.signed, IntKind.bits]; omega
/-- A slice anywhere in a block, of which the call may write all: appended to, it lies in that block or in a new one. -/
theorem wpList_append_seg {P : Program} (w : World) {ops : Array Oper} {rest : List Oper} {o : Oper} {a : Act} {Q : Exit → Act → World → Prop}
    (hg : o.guard = none) (s x : Operand) (t : TypeId) (hop : o.op = Op.call { callee := Callee.builtin Builtin.append, args := #[s, x], argTypes := #[t, t] })
    (e : TypeId) (i : TypeInfo) (z : Value) (size bytes : Nat) (h1 : P.underlying t = some (.slice e)) (h2 : P.info? e = some i) (h3 : i.zero = some z) (h4 : i.size = size) (h5 : i.bytes = bytes) (h6 : z.cells.size = size) (h7 : 0 < size)
    (b off n cap : Nat) (olds : List Value) (hs : a.eval s = .slice (some ⟨b, off, none⟩) n cap) (hb : b < w.heap.size) (hlo : olds.length = n * size) (holds : w.rangeAt b off olds)
    (ad : Addr) (m c : Nat) (news : List Value) (hx : a.eval x = .slice (some ad) m c) (hn : news.length = m * size) (hc : ∀ j u, news[j]? = some u → w.cell? (ad.add j) = some u) (h1c : ∀ u ∈ news, u.oneCell' = true)
    (hspare : n + m ≤ cap → ∀ j, j < news.length → (w.cell? ⟨b, off + n * size + j, none⟩).isSome = true ∧ w.frozen? ⟨b, off + n * size + j, none⟩ = false)
    (b1 : n + m ≤ maxLen) (b2 : (n + m) * bytes ≤ 140737488355328)
    (hK : ∀ w' g o' c', (g = b ∨ w.heap.size ≤ g) → g < w'.heap.size → w'.rangeAt g o' (olds ++ news) → Keep (fun i => i = b) w w' → wpList P ops Q rest (a.put o.dst (.slice (some ⟨g, o', none⟩) (n + m) c')) w') :
    wpList P ops Q (o :: rest) a w := by
  refine wpList_append_arg w hg s x t hop e i z size bytes h1 h2 h3 h4 h5 h6 h7 b off n cap olds hs hlo holds ad m c news hx hn hc h1c hspare b1 b2 ?_ ?_
  · intro hr
    have hk : Keep (fun i => i = b) w (w.setCells b (off + n * size) news) := by
      have : ∀ (vs : List Value) (o : Nat) (w1 : World), Keep (fun i => i = b) w w1 → Keep (fun i => i = b) w (w1.setCells b o vs) := by
        intro vs
        induction vs with
        | nil => intro _ _ h; exact h
        | cons v r ih => intro o w1 h; exact ih _ _ (h.setCell (p := ⟨b, o, none⟩) (fun _ => rfl) v)
      exact this _ _ _ (Keep.refl _ _)
    refine hK _ b off cap (.inl rfl) (Nat.lt_of_lt_of_le hb hk.size) (fun j u hj => ?_) hk
    by_cases hjo : j < olds.length
    · rw [List.getElem?_append_left hjo] at hj
      rw [World.cell?_setCells_out b _ _ _ _ (fun _ _ => .inl (by show off + j < off + n * size; omega))]
      exact holds j u hj
    · rw [List.getElem?_append_right (by omega)] at hj
      have hl : j - olds.length < news.length := by
        rcases Nat.lt_or_ge (j - olds.length) news.length with h | h
        · exact h
        · rw [List.getElem?_eq_none h] at hj; cases hj
      have := World.cell?_setCells_in b news (off + n * size) w (fun q hq => (hspare hr q hq).1) (j - olds.length) hl
      rw [show off + n * size + (j - olds.length) = off + j by omega] at this
      rw [this, ← hj, List.getElem?_eq_getElem hl]
  · intro hr v' w' ho hgr
    by_cases h0 : 0 < n + m
    · obtain ⟨g, cap', sp, rfl, hge, _, _, hblk⟩ := sl_form ho h0
      refine hK w' g 0 cap' (.inr hge) hblk.lt (fun j u hj => ?_) ((keep_grown hgr).mono fun k _ h => by cases h)
      rw [Nat.zero_add]
      refine hblk.cellAt ?_
      have hl : j < (olds ++ news).length := by
        rcases Nat.lt_or_ge j (olds ++ news).length with h | h
        · exact h
        · rw [List.getElem?_eq_none h] at hj; cases hj
      rw [List.getElem?_append_left hl, hj]
    · omega
theorem build_gate {P : Program} {ops : Array Oper} {Q : Exit → Act → World → Prop} {rest : List Oper} {a : Act} {w : World} {t ty : TypeId} {parts : Array (Nat × Operand)} {pos : String} {aft : Array Edge} {g : Option (Nat × Bool)} (n : Tmp)
    (h : wpList P ops Q (⟨some n, .build t parts, ty, pos, aft, g⟩ :: rest) a w) : wpList P ops Q (⟨some n, .build t parts, ty, pos, aft, g⟩ :: rest) a w := h
theorem bslice_gate {P : Program} {ops : Array Oper} {Q : Exit → Act → World → Prop} {rest : List Oper} {a : Act} {w : World} {t ty : TypeId} {k : Nat} {parts : Array (Nat × Operand)} {pos : String} {aft : Array Edge} {g : Option (Nat × Bool)} (n : Tmp)
    (h : wpList P ops Q (⟨some n, .buildSlice t k parts, ty, pos, aft, g⟩ :: rest) a w) : wpList P ops Q (⟨some n, .buildSlice t k parts, ty, pos, aft, g⟩ :: rest) a w := h
theorem row_info7 : ∃ i, Try.prog.info? 42 = some i ∧ i.zero = some (.agg #[.int .i64 0, .int .i64 0, .bool false, .int .i64 0, .bool false]) ∧ i.size = 5 ∧ i.bytes = 40 := by
  have h : (Try.prog.info? 42).map (fun i => (i.zero, i.size, i.bytes)) = some (some (.agg #[.int .i64 0, .int .i64 0, .bool false, .int .i64 0, .bool false]), 5, 40) := by kernel_rfl
  obtain ⟨i, hi, he⟩ := Option.map_eq_some_iff.1 h
  simp only [Prod.mk.injEq] at he
  exact ⟨i, hi, he.1, he.2.1, he.2.2⟩
theorem size57 : (Try.prog.info? 42).map (·.size) = some 5 := by kernel_rfl
/-- Rows that read: the slice v holds l, in a block below nb that is not p. -/
def Sl (p nb : Nat) (v : Value) (l : List Ro) (w : World) : Prop :=
  (v = .slice none 0 0 ∧ l = []) ∨ ∃ g o cap, v = .slice (some ⟨g, o, none⟩) l.length cap ∧ g ≠ p ∧ g < nb ∧ w.rangeAt g o (rows l)
theorem range_keep {S : Nat → Prop} {w w' : World} {g o : Nat} {cs : List Value} (h : w.rangeAt g o cs) (k : Keep S w w') (hg : g < w.heap.size) (hs : ¬ S g) : w'.rangeAt g o cs := fun j v hj => by
  have h1 := h j v hj
  unfold World.cell? at h1 ⊢
  rw [k.block g hg hs]
  exact h1
/-- What stands between two acts' statements: the cache, the rows that should be in it. -/
structure Rd (w : World) (p nb : Nat) (lv : Value) (l : List Ro) (W : World) : Prop where
  bel : Below w.heap.size w W
  n : w.heap.size ≤ p
  pl : p < nb
  le : nb ≤ W.heap.size
  c : ∃ v, Cv w.heap.size p v l W ∧ ∀ g, v.ownBlock = some g → g < nb
  s : Sl p nb lv l W
theorem Rd.keep {S : Nat → Prop} {w W W' : World} {p nb : Nat} {lv : Value} {l : List Ro} (h : Rd w p nb lv l W) (k : Keep S W W') (hs : ∀ i, i < nb → ¬ S i) : Rd w p nb lv l W' := by
  obtain ⟨v, hc, hv⟩ := h.c
  refine ⟨Keep.belowB h.bel k h.bel.size (fun i hi => hs i (by have := h.n; have := h.pl; omega)), h.n, h.pl, Nat.le_trans h.le k.size, ⟨v, hc.keep k (hs p h.pl) (fun g hg => hs g (hv g hg)), hv⟩, ?_⟩
  rcases h.s with hs' | ⟨g, o, cap, e, h1, h2, h3⟩
  · exact .inl hs'
  · exact .inr ⟨g, o, cap, e, h1, h2, range_keep h3 k (by have := h.le; omega) (hs g h2)⟩
theorem Rd.step {w W W' : World} {p nb : Nat} {lv : Value} {l : List Ro} (h : Rd w p nb lv l W) (b : Below W.heap.size W W') : Rd w p nb lv l W' := h.keep (S := fun _ => False) (Keep.of_below b) (fun _ _ h => h)
/-- What stands at an act's beginning. -/
structure Pl (w : World) (p : Nat) (lv : Value) (l : List Ro) (W : World) : Prop where
  r : Rd w p W.heap.size lv l W
  ok : ∀ y ∈ l, y.Ok
  u : l.Pairwise fun a b => ¬ (a.vm = b.vm ∧ a.pg = b.pg)
  fw : ∀ y ∈ l, (Lit.int .i64 y.fr).wf = true
/-- A cell's place among the rows. -/
theorem Sl.cell {p nb : Nat} {v : Value} {l : List Ro} {w : World} (h : Sl p nb v l w) {i : Nat} {x : Ro} (hx : l[i]? = some x) : ∃ g o cap, v = .slice (some ⟨g, o, none⟩) l.length cap ∧ g < nb ∧ w.rangeAt g (o + i * 5) x.cells := by
  rcases h with ⟨_, h⟩ | ⟨g, o, cap, e, _, h2, h3⟩
  · rw [h] at hx; simp at hx
  · refine ⟨g, o, cap, e, h2, fun j u hj => ?_⟩
    have hl : j < 5 := by
      rcases Nat.lt_or_ge j 5 with h | h
      · exact h
      · rw [List.getElem?_eq_none (by simpa [Ro.cells] using h)] at hj; cases hj
    have := h3 (i * 5 + j) u (by rw [← hj]; exact flat_get ro5 hx hl)
    rw [← this, Nat.add_assoc]
theorem Sl.len {p nb : Nat} {v : Value} {l : List Ro} {w : World} (h : Sl p nb v l w) : ∃ a cap, v = .slice a l.length cap := by
  rcases h with ⟨h, e⟩ | ⟨g, o, cap, e, _⟩
  · exact ⟨none, 0, by rw [h, e]; rfl⟩
  · exact ⟨_, cap, e⟩
/-- Which rows stay. -/
def keepB (k : Nat) (vm pg : Int) (y : Ro) : Bool := if k ≤ 4 then !Ro.is vm pg y else if k = 5 then y.vm != vm else false
theorem keep_le4 {k : Nat} (h : k ≤ 4) (l : List Ro) (vm pg : Int) : l.filter (keepB k vm pg) = dropR l vm pg := by
  unfold dropR
  congr 1
  funext y
  unfold keepB
  rw [if_pos h]
theorem keep_5 (l : List Ro) (vm pg : Int) : l.filter (keepB 5 vm pg) = l.filter fun x => x.vm != vm := by
  congr 1
theorem keep_6 (l : List Ro) (vm pg : Int) : l.filter (keepB 6 vm pg) = [] := by
  rw [List.filter_eq_nil_iff]
  intro y _
  simp [keepB]
theorem filter_take {l : List Ro} {P : Ro → Bool} {j : Nat} {x : Ro} (hx : l[j]? = some x) : (l.take (j + 1)).filter P = (l.take j).filter P ++ if P x = true then [x] else [] := by
  rw [List.take_add_one, hx, List.filter_append]
  congr 1
  cases h : P x <;> simp [h]
theorem filter_u {l : List Ro} (h : l.Pairwise fun a b => ¬ (a.vm = b.vm ∧ a.pg = b.pg)) (P : Ro → Bool) : (l.filter P).Pairwise fun a b => ¬ (a.vm = b.vm ∧ a.pg = b.pg) := h.filter P
theorem putL_u {l : List Ro} (h : l.Pairwise fun a b => ¬ (a.vm = b.vm ∧ a.pg = b.pg)) (x : Ro) : (putL l x).Pairwise fun a b => ¬ (a.vm = b.vm ∧ a.pg = b.pg) := by
  unfold putL
  have hd : (dropR l x.vm x.pg).Pairwise fun a b => ¬ (a.vm = b.vm ∧ a.pg = b.pg) := h.filter _
  have hn : ∀ y ∈ dropR l x.vm x.pg, ¬ (y.vm = x.vm ∧ y.pg = x.pg) := fun y hy e => by
    have := (List.mem_filter.1 hy).2
    simp [Ro.is, e.1, e.2] at this
  rw [List.pairwise_append]
  refine ⟨?_, by simp, ?_⟩
  · split
    · exact hd.sublist (List.tail_sublist _)
    · exact hd
  · intro a ha b hb
    rw [List.mem_singleton] at hb
    subst hb
    split at ha
    · exact hn a (List.mem_of_mem_tail ha)
    · exact hn a ha
/-- What the last loop finds. -/
theorem look_take {l : List Ro} (h : l.Pairwise fun a b => ¬ (a.vm = b.vm ∧ a.pg = b.pg)) {j : Nat} {x : Ro} (hx : l[j]? = some x) (vm pg : Int) :
    lookL (l.take (j + 1)) vm pg = if x.vm = vm ∧ x.pg = pg then some x else lookL (l.take j) vm pg := by
  unfold lookL
  rw [List.take_add_one, hx]
  show ((l.take j) ++ [x]).find? (Ro.is vm pg) = _
  rw [List.find?_append]
  by_cases he : x.vm = vm ∧ x.pg = pg
  · rw [if_pos he]
    have hnone : (l.take j).find? (Ro.is vm pg) = none := by
      rw [List.find?_eq_none]
      intro y hy hyy
      simp only [Ro.is, Bool.and_eq_true, decide_eq_true_eq] at hyy
      obtain ⟨i, hi⟩ := List.mem_iff_getElem?.1 hy
      rw [List.getElem?_take] at hi
      split at hi
      · rename_i hij
        have hlj := some_lt hx
        have hli := some_lt hi
        have := List.pairwise_iff_getElem.1 h i j hli hlj hij
        rw [List.getElem?_eq_getElem hli] at hi
        rw [List.getElem?_eq_getElem hlj] at hx
        rw [Option.some.inj hi, Option.some.inj hx] at this
        exact this ⟨by rw [hyy.1, he.1], by rw [hyy.2, he.2]⟩
      · cases hi
    rw [hnone]
    simp [Ro.is, he.1, he.2]
  · rw [if_neg he]
    have : Ro.is vm pg x = false := by
      simp only [Ro.is, Bool.and_eq_false_iff, decide_eq_false_iff_not]
      by_cases h1 : x.vm = vm
      · exact .inr (fun h2 => he ⟨h1, h2⟩)
      · exact .inl h1
    simp [this]
theorem look_all {l : List Ro} {n : Nat} (h : n = l.length) (vm pg : Int) : lookL (l.take n) vm pg = lookL l vm pg := by rw [h, List.take_of_length_le (Nat.le_refl _)]
def entC : Option Ro → List Value
  | some x => [.bool x.th, .int .i64 x.fr, .bool x.wr]
  | none => [.bool false, .int .i64 0, .bool false]
theorem lookV_ent (r : Option Ro) : lookV r = .tuple #[.agg (entC r).toArray, .bool r.isSome] := by cases r <;> rfl
theorem entC_ex (r : Option Ro) : ∃ t f b, entC r = [.bool t, .int .i64 f, .bool b] := by cases r <;> exact ⟨_, _, _, rfl⟩
theorem Sl.of_owns {w : World} {B p : Nat} {v : Value} {l : List Ro} (h : w.ownsRow B 42 5 v l.length (rows l)) (hp : ∀ g, v.ownBlock = some g → g ≠ p) : Sl p w.heap.size v l w := by
  by_cases h0 : 0 < l.length
  · obtain ⟨g, cap, sp, hv, _, _, _, hb⟩ := sl_form h h0
    refine .inr ⟨g, 0, cap, hv, hp g (by rw [hv]; rfl), hb.lt, fun j u hj => ?_⟩
    rw [Nat.zero_add]
    refine hb.cellAt ?_
    have hlt : j < (rows l).length := by
      rcases Nat.lt_or_ge j (rows l).length with h1 | h1
      · exact h1
      · rw [List.getElem?_eq_none h1] at hj; cases hj
    rw [List.getElem?_append_left hlt, hj]
  · have e : l = [] := List.eq_nil_of_length_eq_zero (by omega)
    subst e
    rcases h.2 with ⟨hv, _⟩ | ⟨g, cap, cur, hv, _, hg, _⟩
    · exact .inl ⟨hv, rfl⟩
    · refine .inr ⟨g, 0, cap, hv, hp g (by rw [hv]; rfl), ?_, fun j u hj => by simp [rows, flat] at hj⟩
      rcases Nat.lt_or_ge g w.heap.size with h1 | h1
      · exact h1
      · rw [Array.getElem?_eq_none h1] at hg; cases hg
theorem Pl.mk' {w W : World} {p : Nat} {v v10 : Value} {l : List Ro} (bel : Below w.heap.size w W) (n : w.heap.size ≤ p) (hc : Cv w.heap.size p v l W) (hs : Sl p W.heap.size v10 l W) (ok : ∀ y ∈ l, y.Ok) (u : l.Pairwise fun a b => ¬ (a.vm = b.vm ∧ a.pg = b.pg)) (fw : ∀ y ∈ l, (Lit.int .i64 y.fr).wf = true) : Pl w p v10 l W :=
  ⟨⟨bel, n, hc.c.lt, Nat.le_refl _, ⟨v, hc, fun g hg => (World.ownsRow.lt hc.r g hg).2⟩, hs⟩, ok, u, fw⟩
/-- Behind an act that takes rows away. -/
theorem Rd.fin1 {w W W' : World} {p nb : Nat} {lv v10 : Value} {l l' : List Ro} {e : Ending} (h : Rd w p nb lv l W) (x : W.ownsRow nb 42 5 v10 l'.length (rows l')) (k : KeepP W p l' e W') (ok : ∀ y ∈ l', y.Ok) (u : l'.Pairwise fun a b => ¬ (a.vm = b.vm ∧ a.pg = b.pg)) (fw : ∀ y ∈ l', (Lit.int .i64 y.fr).wf = true) : Pl w p v10 l' W' := by
  obtain ⟨v', _, hc, hk⟩ := k
  have hg := own_ge x
  have hp := h.pl
  refine Pl.mk' (Keep.belowB h.bel hk h.bel.size (fun i hi e => by have := h.n; omega)) h.n (hc.mono h.bel.size) (Sl.of_owns (B := nb) (sl_keep x hk (fun g hgg e => by have := hg g hgg; omega)) (fun g hgg => by have := hg g hgg; omega)) ok u fw
/-- Behind Put, ahead of the row that is appended. -/
structure Af (w : World) (p : Nat) (v10 : Value) (l' : List Ro) (d : List Ro) (W : World) : Prop where
  bel : Below w.heap.size w W
  n : w.heap.size ≤ p
  x : W.ownsRow (p + 1) 42 5 v10 d.length (rows d)
  c : ∃ v, Cv w.heap.size p v l' W ∧ ∀ g, v10.ownBlock = some g → v.ownBlock ≠ some g
theorem Rd.af {w W W' : World} {p nb : Nat} {lv v10 : Value} {l l' d : List Ro} {e : Ending} (h : Rd w p nb lv l W) (x : W.ownsRow nb 42 5 v10 d.length (rows d)) (k : KeepP W p l' e W') : Af w p v10 l' d W' := by
  obtain ⟨v', _, hc, hk⟩ := k
  have hg := own_ge x
  have hp := h.pl
  refine ⟨Keep.belowB h.bel hk h.bel.size (fun i hi e => by have := h.n; omega), h.n, own_mono (sl_keep x hk (fun g hgg e => by have := hg g hgg; omega)) (by omega), v', hc.mono h.bel.size, fun g hgg e => ?_⟩
  have h1 := (World.ownsRow.lt x g hgg).2
  have h2 := (World.ownsRow.lt hc.r g e).1
  omega
theorem Af.step {w W W' : World} {p : Nat} {v10 : Value} {l' d : List Ro} (h : Af w p v10 l' d W) (b : Below W.heap.size W W') : Af w p v10 l' d W' := by
  obtain ⟨v, hc, hv⟩ := h.c
  exact ⟨h.bel.trans (b.mono h.bel.size), h.n, sl_below h.x b, v, hc.below b, hv⟩
theorem Af.fin {w W W' : World} {p : Nat} {v10 vN : Value} {l' d : List Ro} (h : Af w p v10 l' d W) (k : Keep (fun i => v10.ownBlock = some i) W W') (hs : Sl p W'.heap.size vN l' W') (ok : ∀ y ∈ l', y.Ok) (u : l'.Pairwise fun a b => ¬ (a.vm = b.vm ∧ a.pg = b.pg)) (fw : ∀ y ∈ l', (Lit.int .i64 y.fr).wf = true) : Pl w p vN l' W' := by
  obtain ⟨v, hc, hv⟩ := h.c
  have hg := own_ge h.x
  exact Pl.mk' (Keep.belowB h.bel k h.bel.size (fun i hi e => by have := hg i e; have := h.n; omega)) h.n (hc.keep k (fun e => by have := hg p e; omega) (fun g hgg e => hv g e hgg)) hs ok u fw
theorem wpList_append_roomc {P : Program} {w : World} {ops : Array Oper} {rest : List Oper} {o : Oper} {a : Act} {Q : Exit → Act → World → Prop} (hgd : o.guard = none) (s x : Operand) (t : TypeId)
    (ho : o.op = .call { callee := .builtin .append, args := #[s, x], argTypes := #[t, t] }) (e : TypeId) (i : TypeInfo) (ht : P.underlying t = some (.slice e)) (hi : P.info? e = some i) (size : Nat) (hsz : i.size = size)
    (b off sLen sCap : Nat) (ad : Addr) (m c : Nat) (news : List Value) (hs : a.eval s = .slice (some ⟨b, off, none⟩) sLen sCap) (hx : a.eval x = .slice (some ad) m c) (hl : news.length = m * size) (hnews : ∀ j u, news[j]? = some u → w.cell? (ad.add j) = some u) (h1 : ∀ u ∈ news, u.oneCell' = true)
    (hroom : sLen + m ≤ sCap) (hc : ∀ j, j < news.length → (w.cell? ⟨b, off + sLen * size + j, none⟩).isSome = true) (hf : ∀ j, j < news.length → w.frozen? ⟨b, off + sLen * size + j, none⟩ = false)
    (h : wpList P ops Q rest (a.put o.dst (.slice (some ⟨b, off, none⟩) (sLen + m) sCap)) (w.setCells b (off + sLen * size) news)) : wpList P ops Q (o :: rest) a w := by
  subst hsz
  refine wpList_plain hgd fun K hK => ?_
  have hr := run_append_room_cells (P := P) w t o.type e i ht hi b off sLen sCap ad m c news hl hnews h1 hroom hc hf
  unfold Oper.wp execOp
  simp only [ho, resolve, invoke, builtin, Sem.run_bind, Sem.run_pure, Result.andThen_ok, List.map_toArray, List.map_cons, List.map_nil, hs, hx, hr]
  exact hK _ _ h
theorem look_ex {B p : Nat} {v : Value} {l : List Ro} {w : World} (h : Cv B p v l w) (ho : ∀ x ∈ l, x.Ok) (vm pg : Int) (hvm : (Lit.int .i64 vm).wf = true) (hpg : (Lit.int .i64 pg).wf = true) {t b s : Bool} {f : Int} (he : entC (lookL l vm pg) = [.bool t, .int .i64 f, .bool b]) (hs : (lookL l vm pg).isSome = s) :
    Calls Try.prog 9 #[.pointer (some ⟨p, 0, none⟩), .int .i64 vm, .int .i64 pg] w fun e w' => e = .returned (.tuple #[.agg #[.bool t, .int .i64 f, .bool b], .bool s]) ∧ Below w.heap.size w w' :=
  (look_calls h ho vm pg hvm hpg).mono fun e w' hk => by
    rw [lookV_ent, he, hs] at hk
    exact hk
theorem own_tail {w : World} {B n cn : Nat} {an : Option Addr} {d : List Ro} (h : w.ownsRow B 42 5 (.slice an n cn) d.length (rows d)) (h8 : d.length = 8) :
    ∃ g, an = some ⟨g, 0, none⟩ ∧ B ≤ g ∧ g < w.heap.size ∧ 8 ≤ cn ∧ cn ≤ maxLen ∧ w.rangeAt g 5 (rows d.tail) ∧ (7 + 1 ≤ cn - 1 → ∀ j, j < 5 → (w.cell? ⟨g, 5 + 7 * 5 + j, none⟩).isSome = true ∧ w.frozen? ⟨g, 5 + 7 * 5 + j, none⟩ = false) := by
  have hl : (rows d).length = 40 := by unfold rows; rw [flat_length ro5, h8]
  rcases h.2 with ⟨_, h0⟩ | ⟨g, cap, cur, hv, hb, hg, hc, hm, hs, ht⟩
  · omega
  · injection hv with e1 e2 e3
    subst e1; subst e3
    have hB : Blk w g cur.toList 42 := by unfold Blk; simpa using hg
    refine ⟨g, rfl, hb, hB.lt, by omega, hm, fun j u hj => ?_, fun hc2 j hj => ⟨?_, hB.unfrozen _⟩⟩
    · refine hB.cellAt ?_
      rw [← rows_tail, List.getElem?_drop] at hj
      rw [← hj, ← ht, List.getElem?_take_of_lt]
      have := some_lt hj
      rw [hl] at this
      omega
    · have hlt : 5 + 7 * 5 + j < cur.toList.length := by simp only [Array.length_toList]; omega
      rw [hB.cellAt (List.getElem?_eq_getElem hlt)]
      rfl
theorem range_step {w w' : World} {g o : Nat} {cs : List Value} (h : w.rangeAt g o cs) (b : Below w.heap.size w w') (hg : g < w.heap.size) : w'.rangeAt g o cs := range_keep (S := fun _ => False) h (Keep.of_below b) hg (fun h => h)
theorem put_8 {l : List Ro} {x : Ro} (h : (dropR l x.vm x.pg).length = 8) : putL l x = (dropR l x.vm x.pg).tail ++ [x] ∧ (putL l x).length = 7 + 1 ∧ rows (putL l x) = rows (dropR l x.vm x.pg).tail ++ x.cells := by
  have e : putL l x = (dropR l x.vm x.pg).tail ++ [x] := by unfold putL; rw [if_pos h]
  refine ⟨e, by rw [e, List.length_append, List.length_tail, h]; rfl, ?_⟩
  rw [e]; unfold rows; rw [flat_append]; simp [flat]
theorem put_n8 {l : List Ro} {x : Ro} {n : Nat} (h : (dropR l x.vm x.pg).length = n) (h8 : n ≠ 8) : putL l x = dropR l x.vm x.pg ++ [x] ∧ (putL l x).length = n + 1 ∧ rows (putL l x) = rows (dropR l x.vm x.pg) ++ x.cells := by
  have e : putL l x = dropR l x.vm x.pg ++ [x] := by unfold putL; rw [if_neg (by omega)]
  refine ⟨e, by rw [e, List.length_append, h]; rfl, ?_⟩
  rw [e]; unfold rows; rw [flat_append]; simp [flat]
theorem put_mem {l : List Ro} {x y : Ro} (h : y ∈ putL l x) : y ∈ l ∨ y = x := by
  unfold putL at h
  rw [List.mem_append, List.mem_singleton] at h
  rcases h with h | h
  · refine .inl ?_
    split at h
    · exact (List.mem_filter.1 (List.mem_of_mem_tail h)).1
    · exact (List.mem_filter.1 h).1
  · exact .inr h
theorem built_row (a b c : Int) (t g : Bool) : Try.prog.built 42 [(0, .int .i64 a), (1, .int .i64 b), (2, .agg #[.bool t, .int .i64 c, .bool g])] = some #[.int .i64 a, .int .i64 b, .bool t, .int .i64 c, .bool g] := by
  kernel_rfl
theorem built_sl (a b c : Int) (t g : Bool) : Try.prog.builtSlice 42 1 [(0, .agg #[.int .i64 a, .int .i64 b, .bool t, .int .i64 c, .bool g])] = some #[.int .i64 a, .int .i64 b, .bool t, .int .i64 c, .bool g] := by
  kernel_rfl
theorem ent_wf {l : List Ro} {vm pg : Int} (h : ∀ y ∈ l, (Lit.int .i64 y.fr).wf = true) {t b : Bool} {f : Int} (he : entC (lookL l vm pg) = [.bool t, .int .i64 f, .bool b]) : (Lit.int .i64 f).wf = true := by
  cases hr : lookL l vm pg with
  | none => rw [hr] at he; simp only [entC, List.cons.injEq, Value.int.injEq] at he; rw [← he.2.1.2]; rfl
  | some x => rw [hr] at he; simp only [entC, List.cons.injEq, Value.int.injEq] at he; rw [← he.2.1.2]; exact h x (List.mem_of_find?_eq_some hr)
theorem entC_len (r : Option Ro) : (entC r).length = 3 := by cases r <;> rfl
theorem keep_setCells {S : Nat → Prop} {a w : World} (h : Keep S a w) {b : Nat} (hb : b < a.heap.size → S b) (o : Nat) (vs : List Value) : Keep S a (w.setCells b o vs) := by
  induction vs generalizing o w with
  | nil => exact h
  | cons v r ih => exact ih (h.setCell (p := ⟨b, o, none⟩) hb v) _
theorem eql_ent_ne {a c : Bool} {b : Int} (hb : (Lit.int .i64 b).wf = true) (W : World) :
    (binOp .neq 28 (.agg #[.bool a, .int .i64 b, .bool c]) (.agg #[.bool a, .int .i64 b, .bool c])).run Try.prog W = .ok (.bool false) W :=
  (eql_same (P := Try.prog) (w := W) (w0 := W) (n := 3) (t := 28) (s := entSh) (by kernel_rfl) (by omega) (by kernel_rfl) (fits_ent hb W)).2
def acSh : Sh := .seq (.int .u8) (.seq (.int .u8) (.seq (.int .u8) (.seq (.int .i64) (.seq .bool .nil))))
theorem act_of {w : World} {s : List Value} (h : Fits w acSh s) : ∃ (k v p : Nat) (f : Int) (b : Bool), s = [.int .u8 (k : Int), .int .u8 (v : Int), .int .u8 (p : Int), .int .i64 f, .bool b] ∧ k < 256 ∧ v < 256 ∧ p < 256 ∧ (Lit.int .i64 f).wf = true := by
  obtain ⟨_, _, rfl, ⟨a1, rfl, w1⟩, _, _, rfl, ⟨a2, rfl, w2⟩, _, _, rfl, ⟨a3, rfl, w3⟩, _, _, rfl, ⟨a4, rfl, w4⟩, _, _, rfl, ⟨b, rfl⟩, h9⟩ := h
  simp only [Fits] at h9
  subst h9
  obtain ⟨k, rfl, hk⟩ := Bits.wf_u8 w1
  obtain ⟨v, rfl, hv⟩ := Bits.wf_u8 w2
  obtain ⟨p, rfl, hp⟩ := Bits.wf_u8 w3
  exact ⟨k, v, p, a4, b, rfl, hk, hv, hp, w4⟩
theorem Pl.new {w w1 : World} (hb : Below w.heap.size w w1) : Pl w w1.heap.size (.slice none 0 0) [] (w1.alloc (.cells #[.slice none 0 0] 25)) :=
  Pl.mk' (hb.alloc hb.size _) hb.size ⟨Blk.new w1 _ _, World.ownsRow_nil _ _ _ _, (fun e => by cases e), by simp⟩ (.inl ⟨rfl, rfl⟩) (by simp) (by simp) (by simp)
theorem Rd.up {w W : World} {p nb nb' : Nat} {lv : Value} {l : List Ro} (h : Rd w p nb lv l W) (h1 : nb ≤ nb') (h2 : nb' ≤ W.heap.size) : Rd w p nb' lv l W := by
  obtain ⟨v, hc, hv⟩ := h.c
  refine ⟨h.bel, h.n, Nat.lt_of_lt_of_le h.pl h1, h2, ⟨v, hc, fun g hg => Nat.lt_of_lt_of_le (hv g hg) h1⟩, ?_⟩
  rcases h.s with hs | ⟨g, o, cap, e, a, b, c⟩
  · exact .inl hs
  · exact .inr ⟨g, o, cap, e, a, Nat.lt_of_lt_of_le b h1, c⟩
theorem size_act : (Try.prog.info? 40).map (·.size) = some 5 := by kernel_rfl
set_option maxRecDepth 8000 in
set_option maxHeartbeats 16000000 in
theorem cachePlays_walk (v0 : Value) (w : World) (f0 : Fits w (.slice acSh) [v0]) :
    Calls Try.prog 6 #[v0] w fun e w' => e = .returned (.bool true) ∧ Below w.heap.size w w' := by
  obtain ⟨av, cp, segs, rfl, hcap, hmx, hfit, hat⟩ := rowS_of f0 (by decide)
  have hmx' : segs.length ≤ 9223372036854775807 := by unfold maxLen at hmx; omega
  clear f0 hmx hcap
  have HF := Lib.hid hfit
  have HA := Lib.hid hat
  clear hfit hat
  have hn0 : 0 ≤ (segs.length : Int) := by omega
  have hn1 : (segs.length : Int) ≤ 9223372036854775807 := by omega
  go_enter Try.func6, Try.ntmps6
  by_cases h80 : segs.length ≤ 80
  · have hd : ¬ (80 : Int) < (segs.length : Int) := by omega
    go_upto_region 3 with (go_at_call 11; refine (awake_calls _).mono ?_; rintro e w1 ⟨rfl, u1⟩; have B1 := Lib.hid u1; clear u1)
    have P2 := Lib.hid (Pl.new B1.out)
    have NP := Lib.hid B1.out.size
    clear B1
    go_upto_region 4 with (fail)
    generalize w1.alloc _ = w2 at *
    generalize w1.heap.size = pc at *
    go_upto_region 6 with (fail)
    go_loopw [4, 5] (fun lv iv wr => ∃ (i : Nat) (l : List Ro), i ≤ segs.length ∧ iv = .int .i64 i ∧ Pl w pc lv l wr) (fun _ iv _ => segs.length - (intOf iv).toNat)
    case atStart => exact ⟨0, [], Nat.zero_le _, rfl, P2.out⟩
    case round =>
      obtain ⟨i, l, hi, rfl, P⟩ := hrel
      have P3 := Lib.hid P
      clear P P2
      by_cases hlt : i < segs.length
      · have hii : (i : Int) < (segs.length : Int) := by omega
        have hi0 : 0 ≤ (i : Int) := by omega
        obtain ⟨s, hs⟩ : ∃ s, segs[i]? = some s := ⟨_, List.getElem?_eq_getElem hlt⟩
        obtain ⟨ka, va, pa, fr, bw, rfl, hka, hva, hpa, hfr⟩ := act_of (HF.out s (List.mem_of_getElem? hs))
        obtain ⟨b, off, hav, hr⟩ := HA.out i _ hs
        have HR := Lib.hid (hr _ P3.out.r.bel)
        have HFR := Lib.hid hfr
        clear hr hs hfr HF HA
        rw [hav]
        have I5 := Lib.hid size_act
        have hvm : (va : Int) % 3 = ((va % 3 : Nat) : Int) := by omega
        have hpg : (pa : Int) % 5 = ((pa % 5 : Nat) : Int) := by omega
        have hkk : (ka : Int) % 7 = ((ka % 7 : Nat) : Int) := by omega
        have VM := Lib.hid (show va % 3 < 3 by omega)
        have PG := Lib.hid (show pa % 5 < 5 by omega)
        have KK := Lib.hid (show ka % 7 < 7 by omega)
        generalize va % 3 = vm at *
        generalize pa % 5 = pg at *
        generalize ka % 7 = k at *
        go_upto_region 9 with ((with_reducible refine load_gate (40) (39) ?_); refine wpList_load_mid rfl 40 (.tmp 39) rfl b (off + i * 5) rfl [.int .u8 (ka : Int), .int .u8 (va : Int), .int .u8 (pa : Int), .int .i64 fr, .bool bw] _ HR.out Try.underlying40 rfl I5.out ?_)
        have A4 := (Blk.new wr #[.int .u8 (ka : Int), .int .u8 (va : Int), .int .u8 (pa : Int), .int .i64 fr, .bool bw] 40)
        have R4 := Lib.hid (P3.out.r.step ((Below.refl wr.heap.size wr).alloc (Nat.le_refl _) (.cells #[.int .u8 (ka : Int), .int .u8 (va : Int), .int .u8 (pa : Int), .int .i64 fr, .bool bw] 40)))
        have OKL := Lib.hid P3.out.ok
        have OKU := Lib.hid P3.out.u
        have OKF := Lib.hid P3.out.fw
        have LW := Lib.hid P3.out.r.bel.size
        clear P3
        generalize wr.alloc _ = w4 at *
        generalize wr.heap.size = na at *
        have q0 := A4.cellAt (i := 0) rfl
        have q1 := A4.cellAt (i := 1) rfl
        have q2 := A4.cellAt (i := 2) rfl
        have q3 := A4.cellAt (i := 3) rfl
        have q4 := A4.cellAt (i := 4) rfl
        have LA := Lib.hid A4.lt
        have HVM : (va : Int) % 3 = (vm : Int) := hvm
        clear A4
        go_upto_region 12 with (fail)
        have E5 := Lib.hid (Own.newL R4.out.bel [.bool true, .int .i64 fr, .bool bw] 28)
        have R5 := Lib.hid (R4.out.step ((Below.refl w4.heap.size w4).alloc (Nat.le_refl _) (.cells #[.bool true, .int .i64 fr, .bool bw] 28)))
        clear R4
        generalize hw5 : w4.alloc (.cells #[.bool true, .int .i64 fr, .bool bw] 28) = w5 at *
        have q0 : w5.cell? ⟨na, 0, none⟩ = some (.int .u8 (ka : Int)) := by rw [← hw5, World.cell?_alloc_lt _ _ _ LA.out]; exact q0
        clear hw5 q1 q2 q3 q4
        generalize w4.heap.size = ne at *
        have NPE := Lib.hid (show ne ≠ pc from by have h1 := R5.out.pl; have h2 := LA.out; omega)
        have R6 := Lib.hid (R5.out.up (nb' := w5.heap.size) R5.out.le (Nat.le_refl _))
        clear R5
        have NB := Lib.hid E5.out.lt
        have hnb : Hid (w5.heap.size = w5.heap.size) := rfl
        generalize hnbe : w5.heap.size = nb at *
        have HNB := Lib.hid hnbe
        clear hnb hnbe
        go_upto_region 15 with (fail)
        rw [hkk]
        obtain ⟨al, cl, hlv⟩ := R6.out.s.len
        have HLV := Lib.hid hlv
        rw [hlv]
        clear hlv
        have L8 := Lib.hid (show l.length ≤ 8 from by obtain ⟨v, hc, _⟩ := R6.out.c; exact hc.le)
        obtain ⟨ii, hii, hz5, hs5, hb5⟩ := row_info7
        have HI := Lib.hid hii
        have HZ := Lib.hid hz5
        have HSz := Lib.hid hs5
        have HBy := Lib.hid hb5
        have IR := Lib.hid size57
        clear hii hz5 hs5 hb5 hkk hvm hpg HVM
        go_loopw [10, 12, 13] (fun nv jv _ wq => ∃ (j n : Nat) (a : Option Addr) (cap : Nat), j ≤ l.length ∧ ((l.take j).filter (keepB k vm pg)).length = n ∧ jv = .int .i64 j ∧ nv = .slice a n cap ∧ wq.ownsRow nb 42 5 (.slice a n cap) n (rows ((l.take j).filter (keepB k vm pg))) ∧ Rd w pc nb u4 l wq ∧ Own w ne [.bool true, .int .i64 fr, .bool bw] 28 wq) (fun _ jv _ _ => l.length - (intOf jv).toNat)
        case atStart => exact ⟨0, 0, none, 0, Nat.zero_le _, rfl, rfl, rfl, World.ownsRow_nil _ _ _ _, R6.out, E5.out⟩
        case round =>
          clear R6 E5 q0
          obtain ⟨j, n, an, cn, hj, hn, rfl, rfl, N, R, E⟩ := hrel
          have N7 := Lib.hid N
          have R7 := Lib.hid R
          have E7 := Lib.hid E
          have HN := Lib.hid hn
          clear N R E hn
          have hj0 : 0 ≤ (j : Int) := by omega
          have hl8 := L8.out
          have hll : (l.length : Int) ≤ 8 := by omega
          have hll0 : 0 ≤ (l.length : Int) := by omega
          by_cases hjl : j < l.length
          · have hji : (j : Int) < (l.length : Int) := by omega
            obtain ⟨x, hx⟩ : ∃ x, l[j]? = some x := ⟨_, List.getElem?_eq_getElem hjl⟩
            obtain ⟨g, o, cap', hv, hg, hr⟩ := R7.out.s.cell hx
            have hal : al = some ⟨g, o, none⟩ := by rw [HLV.out] at hv; injection hv
            have FT := Lib.hid (filter_take (P := keepB k vm pg) hx)
            have n8 : n ≤ 8 := by have := HN.out; have h1 := List.length_filter_le (keepB k vm pg) (l.take j); rw [List.length_take] at h1; omega
            rw [hal]
            obtain ⟨xv, xp, xt, xf, xw⟩ := x
            have c0 : wr.cell? ⟨g, o + j * 5, none⟩ = some (.int .i64 xv) := hr 0 _ rfl
            have c1 : wr.cell? ⟨g, o + j * 5 + 1, none⟩ = some (.int .i64 xp) := hr 1 _ rfl
            have c2 : wr.cell? ⟨g, o + j * 5 + 2, none⟩ = some (.bool xt) := hr 2 _ rfl
            have c3 : wr.cell? ⟨g, o + j * 5 + 3, none⟩ = some (.int .i64 xf) := hr 3 _ rfl
            have c4 : wr.cell? ⟨g, o + j * 5 + 4, none⟩ = some (.bool xw) := hr 4 _ rfl
            have HR7 := Lib.hid hr
            clear hv hal hx hr
            have HKB := Lib.hid (show keepB k vm pg ⟨xv, xp, xt, xf, xw⟩ = (if k ≤ 4 then !(decide (xv = (vm : Int)) && decide (xp = (pg : Int))) else if k = 5 then xv != (vm : Int) else false) from rfl)
            by_cases hk4 : k ≤ 4
            · have hk4i : (k : Int) ≤ 4 := by omega
              by_cases hxv : xv = (vm : Int)
              · have e1 : (xv == (vm : Int)) = true := by simpa using hxv
                have e1' : (xv != (vm : Int)) = false := by simpa using hxv
                by_cases hxp : xp = (pg : Int)
                · have e2 : (xp == (pg : Int)) = true := by simpa using hxp
                  as_aux_lemma =>
                    rw [HKB.out, if_pos hk4, decide_eq_true hxv, decide_eq_true hxp] at FT
                    have FT2 := Lib.hid (show (l.take (j + 1)).filter (keepB k vm pg) = (l.take j).filter (keepB k vm pg) from by have h := FT.out; simpa using h)
                    go_wp2
                    go_roundw
                    case rel => first | exact ⟨j + 1, n, an, cn, by omega, by rw [FT2.out, HN.out], by go_num, by rfl, by rw [FT2.out]; exact N7.out, R7.out, E7.out⟩ | ((repeat apply Exists.intro); exact ⟨⟨j + 1, n, an, cn, by omega, by rw [FT2.out, HN.out], by go_num, by rfl, by rw [FT2.out]; exact N7.out, R7.out, E7.out⟩, rfl⟩)
                    case measure => first | (simp only [intOf]; omega) | (simp [intOf]; omega)
                · have e2 : (xp == (pg : Int)) = false := by simpa using hxp
                  as_aux_lemma =>
                    rw [HKB.out, if_pos hk4, decide_eq_true hxv, decide_eq_false hxp] at FT
                    subst hxv
                    have FT2 := Lib.hid (show (l.take (j + 1)).filter (keepB k vm pg) = (l.take j).filter (keepB k vm pg) ++ [⟨(vm : Int), xp, xt, xf, xw⟩] from by have h := FT.out; simpa using h)
                    have NW := Lib.hid (fun W : World => news_blk (cs := [.int .i64 (vm : Int), .int .i64 xp, .bool xt, .int .i64 xf, .bool xw]) (sp := []) (by rw [List.append_nil]; exact Blk.new W #[.int .i64 (vm : Int), .int .i64 xp, .bool xt, .int .i64 xf, .bool xw] 42))
                    go_upto_region 19 with (fail)
                    (try clear hk4i)
                    (try clear hk5)
                    go_wp2_with (first | ((with_reducible refine load_gate (42) (101) ?_); refine wpList_load_mid rfl 42 (.tmp 101) rfl g (o + j * 5) rfl [.int .i64 (vm : Int), .int .i64 xp, .bool xt, .int .i64 xf, .bool xw] _ HR7.out Try.underlying42 rfl IR.out ?_) | ((with_reducible refine bslice_gate (103) ?_); refine Go.Great.wpList_buildSliceTo rfl 38 42 1 _ rfl wr.heap.size rfl (some 103) rfl Try.underlying38 #[.int .i64 (vm : Int), .int .i64 xp, .bool xt, .int .i64 xf, .bool xw] (by rw [Array.toList_map]; exact built_sl _ _ _ _ _) ?_) | (at_builtin; refine wpList_append_lies _ (by rfl) (.tmp 98) (.tmp 103) _ (by rfl) nb 42 ii _ 5 40 Try.underlying38 HI.out HZ.out HSz.out HBy.out (by rfl) (by omega) (.slice an n cn) n _ (by rfl) (sl_below N7.out ((Below.refl _ _).alloc (Nat.le_refl _) _)) ⟨wr.heap.size, 0, none⟩ 1 1 [.int .i64 (vm : Int), .int .i64 xp, .bool xt, .int .i64 xf, .bool xw] (by rfl) (by rfl) (NW.out _) (by simp [Value.oneCell']) (by omega) (by unfold maxLen; omega) (by omega) (Nat.le_trans R7.out.le (by simp)) _ rfl ?_; intro g8 c8 w8 h8 k8 o8 l8))
                    have R8 := Lib.hid ((R7.out.step ((Below.refl wr.heap.size wr).alloc (Nat.le_refl _) (.cells #[.int .i64 (vm : Int), .int .i64 xp, .bool xt, .int .i64 xf, .bool xw] 42))).keep (keep_grown k8) (fun i hi e => by have := own_ge N7.out i e; omega))
                    have E8 := Lib.hid ((E7.out.alloc (.cells #[.int .i64 (vm : Int), .int .i64 xp, .bool xt, .int .i64 xf, .bool xw] 42)).keep (keep_grown k8) (fun e => by have := own_ge N7.out ne e; have := NB.out; omega) (fun i hi e => by have := own_ge N7.out i e; have := R7.out.n; have := R7.out.pl; omega))
                    have N8 := Lib.hid (show w8.ownsRow nb 42 5 (.slice (some ⟨g8, 0, none⟩) (n + 1) c8) (n + 1) (rows ((l.take (j + 1)).filter (keepB k vm pg))) from by
                      rw [FT2.out]
                      unfold rows
                      rw [flat_append]
                      exact h8)
                    clear h8 k8 o8 l8
                    go_wp2
                    go_roundw
                    case rel => first | exact ⟨j + 1, n + 1, some ⟨g8, 0, none⟩, c8, by omega, by rw [FT2.out, List.length_append, HN.out]; rfl, by go_num, by rfl, N8.out, R8.out, E8.out⟩ | ((repeat apply Exists.intro); exact ⟨⟨j + 1, n + 1, some ⟨g8, 0, none⟩, c8, by omega, by rw [FT2.out, List.length_append, HN.out]; rfl, by go_num, by rfl, N8.out, R8.out, E8.out⟩, rfl⟩)
                    case measure => first | (simp only [intOf]; omega) | (simp [intOf]; omega)
              · have e1 : (xv == (vm : Int)) = false := by simpa using hxv
                have e1' : (xv != (vm : Int)) = true := by simpa using hxv
                as_aux_lemma =>
                  rw [HKB.out, if_pos hk4, decide_eq_false hxv] at FT
                  have FT2 := Lib.hid (show (l.take (j + 1)).filter (keepB k vm pg) = (l.take j).filter (keepB k vm pg) ++ [⟨xv, xp, xt, xf, xw⟩] from by have h := FT.out; simpa using h)
                  have NW := Lib.hid (fun W : World => news_blk (cs := [.int .i64 xv, .int .i64 xp, .bool xt, .int .i64 xf, .bool xw]) (sp := []) (by rw [List.append_nil]; exact Blk.new W #[.int .i64 xv, .int .i64 xp, .bool xt, .int .i64 xf, .bool xw] 42))
                  go_upto_region 19 with (fail)
                  (try clear hk4i)
                  (try clear hk5)
                  go_wp2_with (first | ((with_reducible refine load_gate (42) (101) ?_); refine wpList_load_mid rfl 42 (.tmp 101) rfl g (o + j * 5) rfl [.int .i64 xv, .int .i64 xp, .bool xt, .int .i64 xf, .bool xw] _ HR7.out Try.underlying42 rfl IR.out ?_) | ((with_reducible refine bslice_gate (103) ?_); refine Go.Great.wpList_buildSliceTo rfl 38 42 1 _ rfl wr.heap.size rfl (some 103) rfl Try.underlying38 #[.int .i64 xv, .int .i64 xp, .bool xt, .int .i64 xf, .bool xw] (by rw [Array.toList_map]; exact built_sl _ _ _ _ _) ?_) | (at_builtin; refine wpList_append_lies _ (by rfl) (.tmp 98) (.tmp 103) _ (by rfl) nb 42 ii _ 5 40 Try.underlying38 HI.out HZ.out HSz.out HBy.out (by rfl) (by omega) (.slice an n cn) n _ (by rfl) (sl_below N7.out ((Below.refl _ _).alloc (Nat.le_refl _) _)) ⟨wr.heap.size, 0, none⟩ 1 1 [.int .i64 xv, .int .i64 xp, .bool xt, .int .i64 xf, .bool xw] (by rfl) (by rfl) (NW.out _) (by simp [Value.oneCell']) (by omega) (by unfold maxLen; omega) (by omega) (Nat.le_trans R7.out.le (by simp)) _ rfl ?_; intro g8 c8 w8 h8 k8 o8 l8))
                  have R8 := Lib.hid ((R7.out.step ((Below.refl wr.heap.size wr).alloc (Nat.le_refl _) (.cells #[.int .i64 xv, .int .i64 xp, .bool xt, .int .i64 xf, .bool xw] 42))).keep (keep_grown k8) (fun i hi e => by have := own_ge N7.out i e; omega))
                  have E8 := Lib.hid ((E7.out.alloc (.cells #[.int .i64 xv, .int .i64 xp, .bool xt, .int .i64 xf, .bool xw] 42)).keep (keep_grown k8) (fun e => by have := own_ge N7.out ne e; have := NB.out; omega) (fun i hi e => by have := own_ge N7.out i e; have := R7.out.n; have := R7.out.pl; omega))
                  have N8 := Lib.hid (show w8.ownsRow nb 42 5 (.slice (some ⟨g8, 0, none⟩) (n + 1) c8) (n + 1) (rows ((l.take (j + 1)).filter (keepB k vm pg))) from by
                    rw [FT2.out]
                    unfold rows
                    rw [flat_append]
                    exact h8)
                  clear h8 k8 o8 l8
                  go_wp2
                  go_roundw
                  case rel => first | exact ⟨j + 1, n + 1, some ⟨g8, 0, none⟩, c8, by omega, by rw [FT2.out, List.length_append, HN.out]; rfl, by go_num, by rfl, N8.out, R8.out, E8.out⟩ | ((repeat apply Exists.intro); exact ⟨⟨j + 1, n + 1, some ⟨g8, 0, none⟩, c8, by omega, by rw [FT2.out, List.length_append, HN.out]; rfl, by go_num, by rfl, N8.out, R8.out, E8.out⟩, rfl⟩)
                  case measure => first | (simp only [intOf]; omega) | (simp [intOf]; omega)
            · have hk4i : ¬ (k : Int) ≤ 4 := by omega
              by_cases hk5 : k = 5
              · have h5i : ((k : Int) == 5) = true := by rw [hk5]; rfl
                by_cases hxv : xv = (vm : Int)
                · have e1 : (xv == (vm : Int)) = true := by simpa using hxv
                  have e1' : (xv != (vm : Int)) = false := by simpa using hxv
                  by_cases hxp : xp = (pg : Int)
                  · have e2 : (xp == (pg : Int)) = true := by simpa using hxp
                    as_aux_lemma =>
                      rw [HKB.out, if_neg hk4, if_pos hk5, e1'] at FT
                      have FT2 := Lib.hid (show (l.take (j + 1)).filter (keepB k vm pg) = (l.take j).filter (keepB k vm pg) from by have h := FT.out; simpa using h)
                      go_wp2
                      go_roundw
                      case rel => first | exact ⟨j + 1, n, an, cn, by omega, by rw [FT2.out, HN.out], by go_num, by rfl, by rw [FT2.out]; exact N7.out, R7.out, E7.out⟩ | ((repeat apply Exists.intro); exact ⟨⟨j + 1, n, an, cn, by omega, by rw [FT2.out, HN.out], by go_num, by rfl, by rw [FT2.out]; exact N7.out, R7.out, E7.out⟩, rfl⟩)
                      case measure => first | (simp only [intOf]; omega) | (simp [intOf]; omega)
                  · have e2 : (xp == (pg : Int)) = false := by simpa using hxp
                    as_aux_lemma =>
                      rw [HKB.out, if_neg hk4, if_pos hk5, e1'] at FT
                      have FT2 := Lib.hid (show (l.take (j + 1)).filter (keepB k vm pg) = (l.take j).filter (keepB k vm pg) from by have h := FT.out; simpa using h)
                      go_wp2
                      go_roundw
                      case rel => first | exact ⟨j + 1, n, an, cn, by omega, by rw [FT2.out, HN.out], by go_num, by rfl, by rw [FT2.out]; exact N7.out, R7.out, E7.out⟩ | ((repeat apply Exists.intro); exact ⟨⟨j + 1, n, an, cn, by omega, by rw [FT2.out, HN.out], by go_num, by rfl, by rw [FT2.out]; exact N7.out, R7.out, E7.out⟩, rfl⟩)
                      case measure => first | (simp only [intOf]; omega) | (simp [intOf]; omega)
                · have e1 : (xv == (vm : Int)) = false := by simpa using hxv
                  have e1' : (xv != (vm : Int)) = true := by simpa using hxv
                  as_aux_lemma =>
                    rw [HKB.out, if_neg hk4, if_pos hk5, e1'] at FT
                    have FT2 := Lib.hid (show (l.take (j + 1)).filter (keepB k vm pg) = (l.take j).filter (keepB k vm pg) ++ [⟨xv, xp, xt, xf, xw⟩] from by have h := FT.out; simpa using h)
                    have NW := Lib.hid (fun W : World => news_blk (cs := [.int .i64 xv, .int .i64 xp, .bool xt, .int .i64 xf, .bool xw]) (sp := []) (by rw [List.append_nil]; exact Blk.new W #[.int .i64 xv, .int .i64 xp, .bool xt, .int .i64 xf, .bool xw] 42))
                    go_upto_region 19 with (fail)
                    (try clear hk4i)
                    (try clear hk5)
                    go_wp2_with (first | ((with_reducible refine load_gate (42) (101) ?_); refine wpList_load_mid rfl 42 (.tmp 101) rfl g (o + j * 5) rfl [.int .i64 xv, .int .i64 xp, .bool xt, .int .i64 xf, .bool xw] _ HR7.out Try.underlying42 rfl IR.out ?_) | ((with_reducible refine bslice_gate (103) ?_); refine Go.Great.wpList_buildSliceTo rfl 38 42 1 _ rfl wr.heap.size rfl (some 103) rfl Try.underlying38 #[.int .i64 xv, .int .i64 xp, .bool xt, .int .i64 xf, .bool xw] (by rw [Array.toList_map]; exact built_sl _ _ _ _ _) ?_) | (at_builtin; refine wpList_append_lies _ (by rfl) (.tmp 98) (.tmp 103) _ (by rfl) nb 42 ii _ 5 40 Try.underlying38 HI.out HZ.out HSz.out HBy.out (by rfl) (by omega) (.slice an n cn) n _ (by rfl) (sl_below N7.out ((Below.refl _ _).alloc (Nat.le_refl _) _)) ⟨wr.heap.size, 0, none⟩ 1 1 [.int .i64 xv, .int .i64 xp, .bool xt, .int .i64 xf, .bool xw] (by rfl) (by rfl) (NW.out _) (by simp [Value.oneCell']) (by omega) (by unfold maxLen; omega) (by omega) (Nat.le_trans R7.out.le (by simp)) _ rfl ?_; intro g8 c8 w8 h8 k8 o8 l8))
                    have R8 := Lib.hid ((R7.out.step ((Below.refl wr.heap.size wr).alloc (Nat.le_refl _) (.cells #[.int .i64 xv, .int .i64 xp, .bool xt, .int .i64 xf, .bool xw] 42))).keep (keep_grown k8) (fun i hi e => by have := own_ge N7.out i e; omega))
                    have E8 := Lib.hid ((E7.out.alloc (.cells #[.int .i64 xv, .int .i64 xp, .bool xt, .int .i64 xf, .bool xw] 42)).keep (keep_grown k8) (fun e => by have := own_ge N7.out ne e; have := NB.out; omega) (fun i hi e => by have := own_ge N7.out i e; have := R7.out.n; have := R7.out.pl; omega))
                    have N8 := Lib.hid (show w8.ownsRow nb 42 5 (.slice (some ⟨g8, 0, none⟩) (n + 1) c8) (n + 1) (rows ((l.take (j + 1)).filter (keepB k vm pg))) from by
                      rw [FT2.out]
                      unfold rows
                      rw [flat_append]
                      exact h8)
                    clear h8 k8 o8 l8
                    go_wp2
                    go_roundw
                    case rel => first | exact ⟨j + 1, n + 1, some ⟨g8, 0, none⟩, c8, by omega, by rw [FT2.out, List.length_append, HN.out]; rfl, by go_num, by rfl, N8.out, R8.out, E8.out⟩ | ((repeat apply Exists.intro); exact ⟨⟨j + 1, n + 1, some ⟨g8, 0, none⟩, c8, by omega, by rw [FT2.out, List.length_append, HN.out]; rfl, by go_num, by rfl, N8.out, R8.out, E8.out⟩, rfl⟩)
                    case measure => first | (simp only [intOf]; omega) | (simp [intOf]; omega)
              · have h5i : ((k : Int) == 5) = false := by simp; omega
                by_cases hxv : xv = (vm : Int)
                · have e1 : (xv == (vm : Int)) = true := by simpa using hxv
                  have e1' : (xv != (vm : Int)) = false := by simpa using hxv
                  by_cases hxp : xp = (pg : Int)
                  · have e2 : (xp == (pg : Int)) = true := by simpa using hxp
                    as_aux_lemma =>
                      rw [HKB.out, if_neg hk4, if_neg hk5] at FT
                      have FT2 := Lib.hid (show (l.take (j + 1)).filter (keepB k vm pg) = (l.take j).filter (keepB k vm pg) from by have h := FT.out; simpa using h)
                      go_wp2
                      go_roundw
                      case rel => first | exact ⟨j + 1, n, an, cn, by omega, by rw [FT2.out, HN.out], by go_num, by rfl, by rw [FT2.out]; exact N7.out, R7.out, E7.out⟩ | ((repeat apply Exists.intro); exact ⟨⟨j + 1, n, an, cn, by omega, by rw [FT2.out, HN.out], by go_num, by rfl, by rw [FT2.out]; exact N7.out, R7.out, E7.out⟩, rfl⟩)
                      case measure => first | (simp only [intOf]; omega) | (simp [intOf]; omega)
                  · have e2 : (xp == (pg : Int)) = false := by simpa using hxp
                    as_aux_lemma =>
                      rw [HKB.out, if_neg hk4, if_neg hk5] at FT
                      have FT2 := Lib.hid (show (l.take (j + 1)).filter (keepB k vm pg) = (l.take j).filter (keepB k vm pg) from by have h := FT.out; simpa using h)
                      go_wp2
                      go_roundw
                      case rel => first | exact ⟨j + 1, n, an, cn, by omega, by rw [FT2.out, HN.out], by go_num, by rfl, by rw [FT2.out]; exact N7.out, R7.out, E7.out⟩ | ((repeat apply Exists.intro); exact ⟨⟨j + 1, n, an, cn, by omega, by rw [FT2.out, HN.out], by go_num, by rfl, by rw [FT2.out]; exact N7.out, R7.out, E7.out⟩, rfl⟩)
                      case measure => first | (simp only [intOf]; omega) | (simp [intOf]; omega)
                · have e1 : (xv == (vm : Int)) = false := by simpa using hxv
                  have e1' : (xv != (vm : Int)) = true := by simpa using hxv
                  as_aux_lemma =>
                    rw [HKB.out, if_neg hk4, if_neg hk5] at FT
                    have FT2 := Lib.hid (show (l.take (j + 1)).filter (keepB k vm pg) = (l.take j).filter (keepB k vm pg) from by have h := FT.out; simpa using h)
                    go_wp2
                    go_roundw
                    case rel => first | exact ⟨j + 1, n, an, cn, by omega, by rw [FT2.out, HN.out], by go_num, by rfl, by rw [FT2.out]; exact N7.out, R7.out, E7.out⟩ | ((repeat apply Exists.intro); exact ⟨⟨j + 1, n, an, cn, by omega, by rw [FT2.out, HN.out], by go_num, by rfl, by rw [FT2.out]; exact N7.out, R7.out, E7.out⟩, rfl⟩)
                    case measure => first | (simp only [intOf]; omega) | (simp [intOf]; omega)
          · have e : j = l.length := by omega
            have hji : ¬ (j : Int) < (l.length : Int) := by omega
            rw [e, List.take_of_length_le (Nat.le_refl _)] at N7 HN
            clear HI HZ HSz HBy IR HLV L8 e
            as_aux_lemma =>
              have WV := Lib.hid (show (Lit.int .i64 (vm : Int)).wf = true from by have := VM.out; rcases (show vm = 0 ∨ vm = 1 ∨ vm = 2 by omega) with h | h | h <;> rw [h] <;> rfl)
              have WP := Lib.hid (show (Lit.int .i64 (pg : Int)).wf = true from by have := PG.out; rcases (show pg = 0 ∨ pg = 1 ∨ pg = 2 ∨ pg = 3 ∨ pg = 4 by omega) with h | h | h | h | h <;> rw [h] <;> rfl)
              obtain ⟨cv, hc0, _⟩ := R7.out.c
              have L8L := Lib.hid hc0.le
              have HC := Lib.hid hc0
              clear hc0
              go_upto_block 4 with (fail)
              go_cut [10] (fun s wx => ∃ l', Pl w pc s l' wx)
              case first =>
                rcases (show k ≤ 3 ∨ k = 4 ∨ k = 5 ∨ k = 6 by have := KK.out; omega) with hk | hk | hk | hk
                · as_aux_lemma =>
                  have N9 := Lib.hid (show wr.ownsRow nb 42 5 (.slice an n cn) (dropR l vm pg).length (rows (dropR l vm pg)) from by rw [← keep_le4 (k := k) (by omega), HN.out]; exact N7.out)
                  have ND := Lib.hid (show (dropR l vm pg).length = n from by rw [← keep_le4 (k := k) (by omega)]; exact HN.out)
                  have h4 : ((k : Int) == 4) = false := beq_false_of_ne (by omega)
                  have h5 : ((k : Int) == 5) = false := beq_false_of_ne (by omega)
                  have h6 : ((k : Int) == 6) = false := beq_false_of_ne (by omega)
                  clear hk
                  have I3 := Lib.hid (show (Try.prog.info? 28).map (·.size) = some 3 by kernel_rfl)
                  have PC := Lib.hid (put_calls HC.out OKL.out ⟨(vm : Int), (pg : Int), true, fr, bw⟩ ⟨WV.out, WP.out⟩)
                  have NB9 := Lib.hid R7.out.le
                  go_upto_region 22 with (first | ((with_reducible refine load_gate (28) (9) ?_); refine wpList_load_mid rfl 28 (.tmp 9) rfl ne 0 rfl [.bool true, .int .i64 fr, .bool bw] _ E7.out.all Try.underlying28 rfl I3.out ?_) | (go_at_call 8; refine PC.out.mono ?_; intro e w8 hk8; have A8 := Lib.hid (R7.out.af N9.out hk8); have E8 := Lib.hid (show Own w ne [.bool true, .int .i64 fr, .bool bw] 28 w8 from by obtain ⟨_, _, _, k8⟩ := hk8; exact E7.out.keep k8 NPE.out (fun i hi e => by have h1 := R7.out.n; omega)); obtain ⟨_, rfl, _, _⟩ := hk8))
                  have OK9 := Lib.hid (putL_ok OKL.out (x := ⟨(vm : Int), (pg : Int), true, fr, bw⟩) ⟨WV.out, WP.out⟩)
                  have UU9 := Lib.hid (putL_u OKU.out ⟨(vm : Int), (pg : Int), true, fr, bw⟩)
                  have FW9 := Lib.hid (show ∀ y ∈ putL l ⟨(vm : Int), (pg : Int), true, fr, bw⟩, (Lit.int .i64 y.fr).wf = true from fun y hy => by
                    rcases put_mem hy with h | h
                    · exact OKF.out y h
                    · rw [h]; exact HFR.out)
                  clear E7 PC HC N7 R7 N9 OKL OKU OKF
                  have NW := Lib.hid (fun W : World => news_blk (cs := [.int .i64 (vm : Int), .int .i64 (pg : Int), .bool true, .int .i64 fr, .bool bw]) (sp := []) (by rw [List.append_nil]; exact Blk.new W #[.int .i64 (vm : Int), .int .i64 (pg : Int), .bool true, .int .i64 fr, .bool bw] 42))
                  obtain ⟨ii, hii, hz5, hs5, hb5⟩ := row_info7
                  have HI := Lib.hid hii
                  have HZ := Lib.hid hz5
                  have HSz := Lib.hid hs5
                  have HBy := Lib.hid hb5
                  clear hii hz5 hs5 hb5
                  by_cases n8 : n = 8
                  · subst n8
                    obtain ⟨g, hg, gB, gL, hcap, hcm, hra, hsp⟩ := own_tail A8.out.x ND.out
                    subst hg
                    have P8 := Lib.hid (put_8 (l := l) (x := ⟨(vm : Int), (pg : Int), true, fr, bw⟩) ND.out)
                    have hc1 : ¬ (cn = 1) := by omega
                    have hc2 : ¬ (cn ≤ 1) := by omega
                    have hc3 : ¬ (cn - 1 = 0) := by omega
                    have hc4 : (8 : Int) ≤ (cn : Int) := by omega
                    have hc5 : (1 : Int) ≤ (cn : Int) := by omega
                    have hc6 : (cn : Int) ≤ 9223372036854775807 := by unfold maxLen at hcm; omega
                    have RA := Lib.hid hra
                    have SP := Lib.hid hsp
                    have GL := Lib.hid gL
                    have GB := Lib.hid gB
                    have LR := Lib.hid (show (rows (dropR l vm pg).tail).length = 7 * 5 by unfold rows; rw [flat_length ro5, List.length_tail, ND.out])
                    clear hra hsp gL gB hcap hcm
                    go_upto_region 24 with (fail)
                    go_wp2_with (first | ((with_reducible refine load_gate (28) (9) ?_); refine wpList_load_mid rfl 28 (.tmp 9) rfl ne 0 rfl [.bool true, .int .i64 fr, .bool bw] _ E8.out.all Try.underlying28 rfl I3.out ?_) | ((with_reducible refine build_gate (120) ?_); refine wpList_buildTo rfl 42 _ rfl (some 120) rfl #[.int .i64 (vm : Int), .int .i64 (pg : Int), .bool true, .int .i64 fr, .bool bw] (by rw [Array.toList_map]; exact built_row _ _ _ _ _) ?_) | ((with_reducible refine bslice_gate (121) ?_); refine Go.Great.wpList_buildSliceTo rfl 38 42 1 _ rfl w8.heap.size rfl (some 121) rfl Try.underlying38 #[.int .i64 (vm : Int), .int .i64 (pg : Int), .bool true, .int .i64 fr, .bool bw] (by rw [Array.toList_map]; exact built_sl _ _ _ _ _) ?_) | (at_builtin; refine wpList_append_seg _ (by rfl) (.tmp 116) (.tmp 121) 38 (by rfl) 42 ii _ 5 40 Try.underlying38 HI.out HZ.out HSz.out HBy.out (by rfl) (by omega) g 5 7 (cn - 1) (rows (dropR l vm pg).tail) (by rfl) (by simp; have := GL.out; omega) LR.out (range_step RA.out ((Below.refl _ _).alloc (Nat.le_refl _) _) GL.out) ⟨w8.heap.size, 0, none⟩ 1 1 [.int .i64 (vm : Int), .int .i64 (pg : Int), .bool true, .int .i64 fr, .bool bw] (by rfl) (by rfl) (NW.out _) (by simp [Value.oneCell']) (fun h j hj => by rw [World.cell?_alloc_lt _ _ _ GL.out, World.frozen?_of_block (Below.heap_alloc _ _ _ GL.out)]; exact SP.out h j hj) (by unfold maxLen; omega) (by omega) ?_; intro w9 g9 o9 c9 hg9 hl9 hr9 hk9))
                    go_meet
                    refine ⟨_, (A8.out.step ((Below.refl _ _).alloc (Nat.le_refl _) _)).fin (hk9.mono fun i _ h => by rw [h]; rfl) (.inr ⟨g9, o9, c9, by rw [P8.out.2.1], ?_, hl9, by rw [P8.out.2.2]; exact hr9⟩) OK9.out UU9.out FW9.out⟩
                    have h1 := GB.out
                    have h2 := A8.out.c
                    obtain ⟨v2, hv2, _⟩ := h2
                    have h3 := hv2.c.lt
                    rcases hg9 with h | h
                    · omega
                    · simp at h; omega
                  · have n8i : ((n : Int) == 8) = false := beq_false_of_ne (by omega)
                    have P8 := Lib.hid (put_n8 (l := l) (x := ⟨(vm : Int), (pg : Int), true, fr, bw⟩) ND.out n8)
                    have XN := Lib.hid (show w8.ownsRow (pc + 1) 42 5 (.slice an n cn) n (rows (dropR l vm pg)) from by have h := A8.out.x; rw [ND.out] at h; exact h)
                    have PW := Lib.hid (show pc + 1 ≤ w8.heap.size from by obtain ⟨v2, hv2, _⟩ := A8.out.c; have := hv2.c.lt; omega)
                    have NL := Lib.hid (show n ≤ 8 from by rw [← ND.out]; exact Nat.le_trans (List.length_filter_le _ _) L8L.out)
                    go_upto_region 24 with (fail)
                    go_wp2_with (first | ((with_reducible refine load_gate (28) (9) ?_); refine wpList_load_mid rfl 28 (.tmp 9) rfl ne 0 rfl [.bool true, .int .i64 fr, .bool bw] _ E8.out.all Try.underlying28 rfl I3.out ?_) | ((with_reducible refine build_gate (120) ?_); refine wpList_buildTo rfl 42 _ rfl (some 120) rfl #[.int .i64 (vm : Int), .int .i64 (pg : Int), .bool true, .int .i64 fr, .bool bw] (by rw [Array.toList_map]; exact built_row _ _ _ _ _) ?_) | ((with_reducible refine bslice_gate (121) ?_); refine Go.Great.wpList_buildSliceTo rfl 38 42 1 _ rfl w8.heap.size rfl (some 121) rfl Try.underlying38 #[.int .i64 (vm : Int), .int .i64 (pg : Int), .bool true, .int .i64 fr, .bool bw] (by rw [Array.toList_map]; exact built_sl _ _ _ _ _) ?_) | (at_builtin; refine wpList_append_lies _ (by rfl) (.tmp 116) (.tmp 121) _ (by rfl) (pc + 1) 42 ii _ 5 40 Try.underlying38 HI.out HZ.out HSz.out HBy.out (by rfl) (by omega) (.slice an n cn) n _ (by rfl) (sl_below XN.out ((Below.refl _ _).alloc (Nat.le_refl _) _)) ⟨w8.heap.size, 0, none⟩ 1 1 [.int .i64 (vm : Int), .int .i64 (pg : Int), .bool true, .int .i64 fr, .bool bw] (by rfl) (by rfl) (NW.out _) (by simp [Value.oneCell']) (by omega) (by have := NL.out; unfold maxLen; omega) (by have := NL.out; omega) (by have := PW.out; simp; omega) _ rfl ?_; intro g9 c9 w9 hown hgrow hat hlt))
                    go_meet
                    refine ⟨_, (A8.out.step ((Below.refl _ _).alloc (Nat.le_refl _) _)).fin (keep_grown hgrow) (Sl.of_owns (B := pc + 1) (by rw [P8.out.2.1, P8.out.2.2]; exact hown) (fun g hg e => by have := own_ge hown g hg; omega)) OK9.out UU9.out FW9.out⟩
                · as_aux_lemma =>
                  have N9 := Lib.hid (show wr.ownsRow nb 42 5 (.slice an n cn) (dropR l vm pg).length (rows (dropR l vm pg)) from by rw [← keep_le4 (k := k) (by omega), HN.out]; exact N7.out)
                  have h4 : ((k : Int) == 4) = true := by rw [hk]; rfl
                  clear hk
                  go_wp2_with (go_at_call 10; refine (drop_calls HC.out OKL.out (vm : Int) (pg : Int) WV.out WP.out).mono ?_; intro e w8 hk8; have P8 := Lib.hid (R7.out.fin1 N9.out hk8 (fun y hy => OKL.out y (List.mem_filter.1 hy).1) (List.Pairwise.filter _ OKU.out) (fun y hy => OKF.out y (List.mem_filter.1 hy).1)); obtain ⟨_, rfl, _, _⟩ := hk8)
                  go_meet
                  exact ⟨_, P8.out⟩
                · as_aux_lemma =>
                  have N9 := Lib.hid (show wr.ownsRow nb 42 5 (.slice an n cn) (l.filter fun x => x.vm != (vm : Int)).length (rows (l.filter fun x => x.vm != (vm : Int))) from by have h := N7.out; have e := HN.out; rw [hk, keep_5] at h e; rw [e]; exact h)
                  have h4 : ((k : Int) == 4) = false := by rw [hk]; rfl
                  have h5 : ((k : Int) == 5) = true := by rw [hk]; rfl
                  clear hk
                  go_wp2_with (go_at_call 13; refine (dropVM_calls HC.out (vm : Int)).mono ?_; intro e w8 hk8; have P8 := Lib.hid (R7.out.fin1 N9.out hk8 (fun y hy => OKL.out y (List.mem_filter.1 hy).1) (List.Pairwise.filter _ OKU.out) (fun y hy => OKF.out y (List.mem_filter.1 hy).1)); obtain ⟨_, rfl, _, _⟩ := hk8)
                  go_meet
                  exact ⟨_, P8.out⟩
                · as_aux_lemma =>
                  have N9 := Lib.hid (show wr.ownsRow nb 42 5 (.slice an n cn) ([] : List Ro).length (rows []) from by rw [← keep_6 l vm pg, ← hk, HN.out]; exact N7.out)
                  have h4 : ((k : Int) == 4) = false := by rw [hk]; rfl
                  have h5 : ((k : Int) == 5) = false := by rw [hk]; rfl
                  have h6 : ((k : Int) == 6) = true := by rw [hk]; rfl
                  clear hk
                  go_wp2_with (go_at_call 14; refine (clear_calls HC.out).mono ?_; intro e w8 hk8; have P8 := Lib.hid (R7.out.fin1 N9.out hk8 (by simp) (by simp) (by simp)); obtain ⟨_, rfl, _, _⟩ := hk8)
                  go_meet
                  exact ⟨_, P8.out⟩
              case rest =>
                obtain ⟨l9, hp⟩ := hcut
                have P9 := Lib.hid hp
                clear hp R7 E7 N7 HN OKL OKU HC WV WP
                obtain ⟨a9, c9, hv9⟩ := P9.out.r.s.len
                subst hv9
                obtain ⟨v9, hc9, _⟩ := P9.out.r.c
                have HC9 := Lib.hid hc9
                have h98 : l9.length ≤ 8 := hc9.le
                have h98i : (l9.length : Int) ≤ 8 := by omega
                have h90i : 0 ≤ (l9.length : Int) := by omega
                clear hc9
                go_upto_region 35 with (go_at_call 12; refine (len_calls HC9.out).mono ?_; rintro e w9 ⟨rfl, h9⟩; subst h9)
                clear HC9
                go_loopw [14] (fun vi wx => ∃ (i : Nat), i ≤ 3 ∧ vi = .int .i64 i ∧ Pl w pc (.slice a9 l9.length c9) l9 wx) (fun vi _ => 3 - (intOf vi).toNat)
                case atStart => exact ⟨0, by omega, rfl, P9.out⟩
                case round =>
                  obtain ⟨i9, hi9, rfl, hp9⟩ := hrel
                  have P10 := Lib.hid hp9
                  clear P9 hp9
                  by_cases hi3 : i9 < 3
                  · have hi3i : (i9 : Int) < 3 := by omega
                    have hi30 : 0 ≤ (i9 : Int) := by omega
                    have WI := Lib.hid (show (Lit.int .i64 (i9 : Int)).wf = true from by rcases (show i9 = 0 ∨ i9 = 1 ∨ i9 = 2 by omega) with h | h | h <;> rw [h] <;> rfl)
                    go_upto_region 38 with (fail)
                    go_loopw [15] (fun vj wx => ∃ (j : Nat), j ≤ 5 ∧ vj = .int .i64 j ∧ Pl w pc (.slice a9 l9.length c9) l9 wx) (fun vj _ => 5 - (intOf vj).toNat)
                    case atStart => exact ⟨0, by omega, rfl, P10.out⟩
                    case round =>
                      obtain ⟨j9, hj9, rfl, hp10⟩ := hrel
                      have P11 := Lib.hid hp10
                      clear P10 hp10
                      by_cases hj5 : j9 < 5
                      · have hj5i : (j9 : Int) < 5 := by omega
                        have hj50 : 0 ≤ (j9 : Int) := by omega
                        have WJ := Lib.hid (show (Lit.int .i64 (j9 : Int)).wf = true from by rcases (show j9 = 0 ∨ j9 = 1 ∨ j9 = 2 ∨ j9 = 3 ∨ j9 = 4 by omega) with h | h | h | h | h <;> rw [h] <;> rfl)
                        obtain ⟨v9, hc9, _⟩ := P11.out.r.c
                        have HC9 := Lib.hid hc9
                        clear hc9
                        obtain ⟨tr, fr9, br, hen⟩ := entC_ex (lookL l9 i9 j9)
                        have HEN := Lib.hid hen
                        obtain ⟨sr, hsr⟩ : ∃ s, (lookL l9 i9 j9).isSome = s := ⟨_, rfl⟩
                        have HSR := Lib.hid hsr
                        have LC := Lib.hid (look_ex HC9.out P11.out.ok (i9 : Int) (j9 : Int) WI.out WJ.out hen hsr)
                        clear hen hsr
                        go_upto_region 41 with (go_at_call 9; refine LC.out.mono ?_; rintro e w9 ⟨rfl, b9⟩; have B9 := Lib.hid b9; clear b9)
                        have YF := Lib.hid (ent_wf (fun y hy => P11.out.fw y hy) HEN.out)
                        have OKP := Lib.hid P11.out
                        have R12 := Lib.hid (P11.out.r.step B9.out)
                        have Y12 := Lib.hid (Own.newL (P11.out.r.bel.trans (B9.out.mono P11.out.r.bel.size)) [.bool tr, .int .i64 fr9, .bool br] 28)
                        have R13 := Lib.hid ((R12.out.up (nb' := w9.heap.size) R12.out.le (Nat.le_refl _)).step ((Below.refl w9.heap.size w9).alloc (Nat.le_refl _) (.cells #[.bool tr, .int .i64 fr9, .bool br] 28)))
                        have FN := Lib.hid (show lookL (l9.take 0) i9 j9 = none from rfl)
                        have FT := Lib.hid (fun (j : Nat) (x : Ro) (hx : l9[j]? = some x) => look_take P11.out.u hx (i9 : Int) (j9 : Int))
                        have FA := Lib.hid (look_all (l := l9) rfl (i9 : Int) (j9 : Int))
                        have OKK := Lib.hid P11.out.ok
                        have UKK := Lib.hid P11.out.u
                        have FKK := Lib.hid P11.out.fw
                        clear LC HC9 R12 B9 P11 OKP WI WJ
                        generalize w9.alloc (.cells _ 28) = w10 at *
                        generalize w9.heap.size = yb at *
                        have NY := Lib.hid Y12.out.lt
                        go_upto_region 42 with (fail)
                        have W14 := Lib.hid (Own.newL Y12.out.bel [.bool false, .int .i64 0, .bool false] 28)
                        have Y14 := Lib.hid (Y12.out.alloc (.cells #[.bool false, .int .i64 0, .bool false] 28))
                        have R14 := Lib.hid (R13.out.step ((Below.refl w10.heap.size w10).alloc (Nat.le_refl _) (.cells #[.bool false, .int .i64 0, .bool false] 28)))
                        clear R13 Y12
                        generalize w10.alloc (.cells _ 28) = w11 at *
                        generalize w10.heap.size = wb at *
                        go_upto_region 44 with (fail)
                        generalize hcm : lookL (l9.take 0) (i9 : Int) (j9 : Int) = r0 at *
                        have I3 := Lib.hid (show (Try.prog.info? 28).map (·.size) = some 3 by kernel_rfl)
                        go_loopw [19, 20] (fun sv jv wx => ∃ (j : Nat), j ≤ l9.length ∧ jv = .int .i64 j ∧ sv = .bool (lookL (l9.take j) (i9 : Int) (j9 : Int)).isSome ∧ Own w yb [.bool tr, .int .i64 fr9, .bool br] 28 wx ∧ Own w wb (entC (lookL (l9.take j) (i9 : Int) (j9 : Int))) 28 wx ∧ Rd w pc yb (.slice a9 l9.length c9) l9 wx) (fun _ jv _ => l9.length - (intOf jv).toNat)
                        case atStart => exact ⟨0, Nat.zero_le _, rfl, rfl, Y14.out, W14.out, R14.out⟩
                        case round =>
                          obtain ⟨j, hj, rfl, rfl, Y, W, R⟩ := hrel
                          have Y15 := Lib.hid Y
                          have W15 := Lib.hid W
                          have R15 := Lib.hid R
                          clear Y14 W14 R14 Y W R
                          have hj0 : 0 ≤ (j : Int) := by omega
                          by_cases hjl : j < l9.length
                          · have hjli : (j : Int) < (l9.length : Int) := by omega
                            obtain ⟨x, hx⟩ : ∃ x, l9[j]? = some x := ⟨_, List.getElem?_eq_getElem hjl⟩
                            obtain ⟨g, o, cap', hv, hg, hr⟩ := R15.out.s.cell hx
                            have hal : a9 = some ⟨g, o, none⟩ := by injection hv
                            have LT := Lib.hid (FT.out j x hx)
                            subst hal
                            obtain ⟨xv, xp, xt, xf, xw⟩ := x
                            have c0 : wr.cell? ⟨g, o + j * 5, none⟩ = some (.int .i64 xv) := hr 0 _ rfl
                            have c1 : wr.cell? ⟨g, o + j * 5 + 1, none⟩ = some (.int .i64 xp) := hr 1 _ rfl
                            have RX := Lib.hid (show wr.rangeAt g (o + j * 5 + 2) [.bool xt, .int .i64 xf, .bool xw] from fun q u hq => by
                              have h := hr (2 + q) u (by
                                have : ([.bool xt, .int .i64 xf, .bool xw] : List Value)[q]? = (Ro.cells ⟨xv, xp, xt, xf, xw⟩)[2 + q]? := by
                                  rw [Nat.add_comm]; rfl
                                rw [← this]; exact hq)
                              rw [Nat.add_assoc]
                              exact h)
                            clear hv hr hx FT FA FN hcm
                            generalize hl1 : lookL (l9.take (j + 1)) (i9 : Int) (j9 : Int) = r1 at *
                            generalize hl0 : lookL (l9.take j) (i9 : Int) (j9 : Int) = r2 at *
                            have HL1 := Lib.hid hl1
                            clear hl1 hl0
                            by_cases hxv : xv = (i9 : Int)
                            · have e1 : (xv == (i9 : Int)) = true := by simpa using hxv
                              by_cases hxp : xp = (j9 : Int)
                              · have e2 : (xp == (j9 : Int)) = true := by simpa using hxp
                                have LT2 := Lib.hid (show r1 = some ⟨xv, xp, xt, xf, xw⟩ from by have h := LT.out; rw [if_pos ⟨hxv, hxp⟩] at h; exact h)
                                as_aux_lemma =>
                                  go_upto_region 48 with (first | ((with_reducible refine load_gate (28) (185) ?_); refine wpList_load_mid rfl 28 (.tmp 185) rfl g (o + j * 5 + 2) rfl [.bool xt, .int .i64 xf, .bool xw] _ RX.out Try.underlying28 rfl I3.out ?_) | ((with_reducible refine store_gate (28) (18) (186) ?_); refine wpList_store_mid rfl 28 (.tmp 18) (.tmp 186) rfl wb 0 #[.bool xt, .int .i64 xf, .bool xw] rfl rfl (W15.out.there (n := 3) (by rw [entC_len]; exact Nat.le_refl 3)) I3.out (by simp [Value.oneCell']) ?_))
                                  have W16 := Lib.hid (show Own w wb (entC (lookL (l9.take (j + 1)) (i9 : Int) (j9 : Int))) 28 (wr.setCells wb 0 [.bool xt, .int .i64 xf, .bool xw]) from by rw [HL1.out, LT2.out]; exact W15.out.setAll [.bool xt, .int .i64 xf, .bool xw] (by rw [entC_len]; rfl))
                                  have Y16 := Lib.hid (Y15.out.setAllO (b' := wb) (by have := NY.out; omega) W15.out.n 0 [.bool xt, .int .i64 xf, .bool xw])
                                  have R16 := Lib.hid (R15.out.keep (S := fun i => i = wb) (keep_setCells (S := fun i => i = wb) (Keep.refl _ wr) (fun _ => rfl) 0 [.bool xt, .int .i64 xf, .bool xw]) (fun i hi e => by have := NY.out; omega))
                                  generalize wr.setCells wb 0 _ = w12 at *
                                  go_wp2
                                  go_roundw
                                  case rel => first | exact ⟨j + 1, by omega, by go_num, by rw [HL1.out, LT2.out]; rfl, Y16.out, W16.out, R16.out⟩ | ((repeat apply Exists.intro); exact ⟨⟨j + 1, by omega, by go_num, by rw [HL1.out, LT2.out]; rfl, Y16.out, W16.out, R16.out⟩, rfl⟩)
                                  case measure => first | (simp only [intOf]; omega) | (simp [intOf]; omega)
                              · have e2 : (xp == (j9 : Int)) = false := by simpa using hxp
                                have LT2 := Lib.hid (show r1 = r2 from by have h := LT.out; rw [if_neg (fun h => hxp h.2)] at h; exact h)
                                as_aux_lemma =>
                                  go_wp2
                                  go_roundw
                                  case rel => first | exact ⟨j + 1, by omega, by go_num, by rw [HL1.out, LT2.out], Y15.out, by rw [HL1.out, LT2.out]; exact W15.out, R15.out⟩ | ((repeat apply Exists.intro); exact ⟨⟨j + 1, by omega, by go_num, by rw [HL1.out, LT2.out], Y15.out, by rw [HL1.out, LT2.out]; exact W15.out, R15.out⟩, rfl⟩)
                                  case measure => first | (simp only [intOf]; omega) | (simp [intOf]; omega)
                            · have e1 : (xv == (i9 : Int)) = false := by simpa using hxv
                              have LT2 := Lib.hid (show r1 = r2 from by have h := LT.out; rw [if_neg (fun h => hxv h.1)] at h; exact h)
                              as_aux_lemma =>
                                go_wp2
                                go_roundw
                                case rel => first | exact ⟨j + 1, by omega, by go_num, by rw [HL1.out, LT2.out], Y15.out, by rw [HL1.out, LT2.out]; exact W15.out, R15.out⟩ | ((repeat apply Exists.intro); exact ⟨⟨j + 1, by omega, by go_num, by rw [HL1.out, LT2.out], Y15.out, by rw [HL1.out, LT2.out]; exact W15.out, R15.out⟩, rfl⟩)
                                case measure => first | (simp only [intOf]; omega) | (simp [intOf]; omega)
                          · have hjli : ¬ (j : Int) < (l9.length : Int) := by omega
                            have ej : j = l9.length := by omega
                            have NE := Lib.hid (fun W => eql_ent_ne (a := tr) (c := br) YF.out W)
                            have W16 := Lib.hid (show Own w wb [.bool tr, .int .i64 fr9, .bool br] 28 wr from by rw [← HEN.out, ← FA.out, ← ej]; exact W15.out)
                            have HS : (lookL (l9.take j) (i9 : Int) (j9 : Int)).isSome = sr := by rw [ej, FA.out]; exact HSR.out
                            have NE2 := NE.out
                            rw [HS]
                            clear HS ej FT W15 FN hcm
                            as_aux_lemma =>
                              go_wp2_with (first | ((with_reducible refine load_gate (28) (16) ?_); refine wpList_load_w (by rfl) 28 (.tmp 16) rfl yb 0 rfl [.bool tr, .int .i64 fr9, .bool br] _ Y15.out.all Try.underlying28 rfl I3.out ?_) | ((with_reducible refine load_gate (28) (18) ?_); refine wpList_load_w (by rfl) 28 (.tmp 18) rfl wb 0 rfl [.bool tr, .int .i64 fr9, .bool br] _ W16.out.all Try.underlying28 rfl I3.out ?_))
                              have P12 := Lib.hid (show Pl w pc (.slice a9 l9.length c9) l9 wr from ⟨R15.out.up R15.out.le (Nat.le_refl _), OKK.out, UKK.out, FKK.out⟩)
                              go_roundw
                              case rel => first | exact ⟨j9 + 1, by omega, by go_num, P12.out⟩ | ((repeat apply Exists.intro); exact ⟨⟨j9 + 1, by omega, by go_num, P12.out⟩, rfl⟩)
                              case measure => first | (simp only [intOf]; omega) | (simp [intOf]; omega)
                      · have hj5i : ¬ (j9 : Int) < 5 := by omega
                        as_aux_lemma =>
                          go_wp2
                          go_roundw
                          case rel => first | exact ⟨i9 + 1, by omega, by go_num, P11.out⟩ | ((repeat apply Exists.intro); exact ⟨⟨i9 + 1, by omega, by go_num, P11.out⟩, rfl⟩)
                          case measure => first | (simp only [intOf]; omega) | (simp [intOf]; omega)
                  · have hi3i : ¬ (i9 : Int) < 3 := by omega
                    as_aux_lemma =>
                      go_wp2
                      go_roundw
                      case rel => first | exact ⟨i + 1, l9, by omega, by go_num, P10.out⟩ | ((repeat apply Exists.intro); exact ⟨⟨i + 1, l9, by omega, by go_num, P10.out⟩, rfl⟩)
                      case measure => first | (simp only [intOf]; omega) | (simp [intOf]; omega)
      · have hii : ¬ (i : Int) < (segs.length : Int) := by omega
        have PB := Lib.hid P3.out.r.bel
        clear P3 HF HA
        go_wp2
        first | exact PB.out | (go_ret; exact ⟨rfl, PB.out⟩) | trace_state
  · have hd : (80 : Int) < (segs.length : Int) := by omega
    go_upto_region 2 with (go_at_call 11; refine (awake_calls _).mono ?_; rintro e w1 ⟨rfl, u1⟩; have B1 := Lib.hid u1; clear u1)
    go_wp2_with (go_at_call 11; refine (awake_calls _).mono ?_; rintro e w2 ⟨rfl, u1⟩; have B2 := Lib.hid (B1.out.trans (u1.mono B1.out.size)); clear u1)
    go_ret
    exact ⟨rfl, B2.out⟩
end Go.Proofs.Ytiihhpbobebliaa.Walks
