/- Walks through the functions of the statement, and the statement over them: each contract says what the call answers and that nothing else changes. -/
import Derived.Test.YtjlodddlbgpcdaaDoorProg
import Derived.Test.YtjlodddlbgpcdaaDoorBits
import Derived.Test.YtjlodddlbgpcdaaDoorHeap
import Derived.Test.YtjlodddlbgpcdaaDoorAid
import Derived.Test.YtjlodddlbgpcdaaDoorArr
import Derived.Test.YtjlodddlbgpcdaaDoorEql
import Derived.Test.YtjlodddlbgpcdaaDoorWalkBase
import Derived.Test.YtjlodddlbgpcdaaDoorWalkCode
import Derived.Test.YtjlodddlbgpcdaaDoorWalkSeat
import Derived.Test.YtjlodddlbgpcdaaDoorWalkRef
import Derived.Test.YtjlodddlbgpcdaaDoorWalkRefR
import Derived.Test.YtjlodddlbgpcdaaDoorWalkBus
import Derived.Test.YtjlodddlbgpcdaaDoorWalkBus2
import Derived.Test.YtjlodddlbgpcdaaDoorWalkRefP
import Derived.Test.YtjlodddlbgpcdaaDoorWalkRefG
import Derived.Test.YtjlodddlbgpcdaaDoorWalkRefL
import Derived.Test.YtjlodddlbgpcdaaDoorWalkDo
import Derived.Test.YtjlodddlbgpcdaaDoorWalkDo2
import Derived.Test.YtjlodddlbgpcdaaDoorWalkStep
import Derived.Lib.Hide
import Derived.WalkKit
import Derived.WalkSpells
import Derived.WalkLawsBesides
import Derived.Deep.QuietTactic
import Derived.BigQuiet
import Derived.Deep.RegionHeld3
import Derived.Deep.DeepCutAuto
import Derived.Deep.CutBlock
import Derived.Lib.SlBytesConst
import Derived.StillTailTactics
import Derived.RegionTactic
import Derived.Deep.RegionLaw
import Derived.Laws.BytesString
import Derived.Laws.MakeOwn
import Derived.Deep.AppendLies
import Derived.Laws.CopyOwn
import Derived.Maps.AppendAt
import Derived.Deep.Upon
import Derived.Deep.AppendSrc
import Derived.Shelf.Abstract
import Derived.Shelf.Spec.TrailingZeros
namespace Go.Proofs.YtjlodddlbgpcdaaDoor.Walks
set_option linter.unusedVariables false
set_option linter.unusedSimpArgs false
open Go.RowKit Go.Proofs.YtjlodddlbgpcdaaDoor.Bits Go.Proofs.YtjlodddlbgpcdaaDoor.Heap Go.Proofs.YtjlodddlbgpcdaaDoor.Aid Go.Proofs.YtjlodddlbgpcdaaDoor.Arr Go.Proofs.YtjlodddlbgpcdaaDoor.Eql


theorem wpList_copy_any {P : Program} {w : World} {ops : Array Oper} {rest : List Oper} {o : Oper} {a : Act} {Q : Exit → Act → World → Prop} (hgd : o.guard = none) (d s : Operand) (dT sT : TypeId)
    (ho : o.op = .call { callee := .builtin .copy, args := #[d, s], argTypes := #[dT, sT] }) (elem : TypeId) (hu : P.underlying dT = some (.slice elem)) (hsz : (P.info? elem).map (·.size) = some 1)
    (g off dLen dCap : Nat) (ad : Addr) (sLen sCap : Nat) (hd : a.eval d = .slice (some ⟨g, off, none⟩) dLen dCap) (hs : a.eval s = .slice (some ad) sLen sCap) (cs : List Value) (hn : cs.length = Nat.min sLen dLen)
    (hsrc : ∀ j v, cs[j]? = some v → w.cell? (ad.add j) = some v) (hc : ∀ j, j < cs.length → (w.cell? ⟨g, off + j, none⟩).isSome = true) (hf : ∀ j, j < cs.length → w.frozen? ⟨g, off + j, none⟩ = false) (h1 : ∀ v ∈ cs, v.oneCell' = true)
    (h : wpList P ops Q rest (a.put o.dst (goInt cs.length)) (w.setCells g off cs)) : wpList P ops Q (o :: rest) a w := by
  refine wpList_plain hgd fun K hK => ?_
  have hrun := run_copy_cells (P := P) w dT sT o.type elem g off dLen dCap ad sLen sCap cs hu hsz hn hsrc hc hf h1
  unfold Oper.wp
  simp [execOp, ho, resolve, invoke, builtin, hd, hs, hrun, Result.andThen]
  exact hK _ _ h
/-- A copy out of a row that came in, or was made. -/
theorem wpList_copy_row {P : Program} {w : World} {ops : Array Oper} {rest : List Oper} {o : Oper} {a : Act} {Q : Exit → Act → World → Prop} (hgd : o.guard = none) (d s : Operand) (dT sT : TypeId)
    (ho : o.op = .call { callee := .builtin .copy, args := #[d, s], argTypes := #[dT, sT] }) (elem : TypeId) (hu : P.underlying dT = some (.slice elem)) (hsz : (P.info? elem).map (·.size) = some 1)
    (g off dLen dCap : Nat) (l : List Nat) (hd : a.eval d = .slice (some ⟨g, off, none⟩) dLen dCap) (hr : Row w enc8 (a.eval s) l) (hn : l.length ≤ dLen)
    (hc : ∀ j, j < l.length → (w.cell? ⟨g, off + j, none⟩).isSome = true) (hf : ∀ j, j < l.length → w.frozen? ⟨g, off + j, none⟩ = false)
    (h : wpList P ops Q rest (a.put o.dst (goInt l.length)) (w.setCells g off (l.map enc8))) : wpList P ops Q (o :: rest) a w := by
  obtain ⟨sa, scap, hs⟩ := hr.form
  rcases Nat.eq_zero_or_pos l.length with h0 | h0
  · have hl : l = [] := List.eq_nil_of_length_eq_zero h0
    subst hl
    exact wpList_copy_nothing hgd d s dT sT ho elem hu hsz (some ⟨g, off, none⟩) sa dLen dCap 0 scap hd hs (by simp) h
  · rcases hr with ⟨_, h1⟩ | ⟨ad, scap', h1, _, h2⟩
    · rw [h1] at h0; simp at h0
    · exact wpList_copy_any hgd d s dT sT ho elem hu hsz g off dLen dCap ad l.length scap' hd h1 (l.map enc8) (by rw [List.length_map]; exact (Nat.min_eq_left hn).symm) (fun j u hu => by
        rw [List.getElem?_map] at hu
        obtain ⟨x, hx, rfl⟩ := Option.map_eq_some_iff.1 hu
        exact h2 j x hx) (fun j hj => hc j (by simpa using hj)) (fun j hj => hf j (by simpa using hj)) (one_enc8 l) (by rw [List.length_map]; exact h)
theorem made_bytes (n : Nat) : (madeCells (Value.int .u8 0).cells (n * 1)).toList = (List.replicate n 0).map enc8 := by
  apply List.ext_getElem?
  intro k
  by_cases hk : k < n
  · rw [List.getElem?_map, List.getElem?_replicate, if_pos hk]
    unfold madeCells
    simp [hk, Value.cells, enc8, Nat.mod_one]
  · rw [List.getElem?_eq_none (by unfold madeCells; simp; omega), List.getElem?_eq_none (by simp; omega)]
theorem make_bytes (w : World) (c : Nat) (hc : c ≤ 131072) : ∃ w', (Instr.makeSlice 28 (.int .i64 (c : Int)) (.int .i64 (c : Int))).run Tryd.prog w = .ok (.slice (some ⟨w.heap.size, 0, none⟩) c c) w' ∧ w'.heap.size = w.heap.size + 1 ∧
    Blk w' w.heap.size ((List.replicate c 0).map enc8) 5 ∧ Below w.heap.size w w' := by
  obtain ⟨i, hi, hz, hs, hb⟩ := byte_info
  have h := run_makeSlice (P := Tryd.prog) w 28 5 i _ Tryd.underlying28 hi hz .i64 .i64 (c : Int) (c : Int) (by omega) (by omega) (by rw [hs, Int.toNat_natCast]; omega) (by rw [hb]; omega) (by omega)
  rw [hs] at h
  simp only [Int.toNat_natCast] at h
  refine ⟨_, h, by simp, ?_, (Below.refl _ _).alloc (Nat.le_refl _) _⟩
  have b := Blk.new w (madeCells (Value.int .u8 0).cells (c * 1)) 5
  rw [made_bytes] at b
  exact b
theorem map_range_set (pv : Nat → Value) (i : Nat) (v : Value) : ((List.range 32).map pv).set i v = (List.range 32).map fun j => if j = i then v else pv j := by
  apply List.ext_getElem?
  intro k
  rw [List.getElem?_set, List.getElem?_map, List.getElem?_map]
  by_cases hk : k < 32
  · rw [List.getElem?_range hk]
    by_cases h : i = k
    · subst h; simp [hk]
    · rw [if_neg h]; simp [Ne.symm h]
  · rw [List.getElem?_eq_none (by simpa using hk)]
    simp; intro h1; omega
theorem Mm.F.lt {B mb : Nat} {pv : Nat → Value} {M : Me} {w : World} (s : Mm B mb pv M w) {g : Nat} (h : Mm.F mb pv g) : B ≤ g ∧ g < w.heap.size := by
  rcases h with rfl | ⟨i, hi, e⟩
  · exact ⟨s.b, s.c.lt⟩
  · exact World.ownsRow.lt (s.r i hi) g e
/-- A page more. -/
theorem Mm.page_new {B mb : Nat} {pv : Nat → Value} {M : Me} {w : World} (s : Mm B mb pv M w) {i : Nat} (hi : i < 32) {v : Value} {l : List Nat} (hr : w.ownsRow B 5 1 v l.length (l.map enc8)) (hl : l.length = 256) (hx : ∀ y ∈ l, y < 256) (hm : v.ownBlock ≠ some mb) (hn : ∀ j g, j < 32 → j ≠ i → v.ownBlock = some g → (pv j).ownBlock ≠ some g) :
    Mm B mb (fun j => if j = i then v else pv j) { M with p := fun j => if j = i then l else M.p j } (w.setCell ⟨mb, i, Option.none⟩ v) := by
  have k : Keep (fun g => g = mb) w (w.setCell ⟨mb, i, Option.none⟩ v) := Keep.setCell (S := fun g => g = mb) (Keep.refl _ w) (p := ⟨mb, i, Option.none⟩) (fun _ => rfl) v
  refine ⟨?_, fun q hq => ?_, fun q hq => ?_, fun q z hz => ?_, fun q hq => ?_, fun p q g hp hq hpq e => ?_, s.b⟩
  · have h := s.c.set i v
    rw [List.set_append_left _ _ (by simpa using hi), map_range_set] at h
    exact h
  · show World.ownsRow _ _ _ _ (if q = i then v else pv q) (if q = i then l else M.p q).length (List.map enc8 (if q = i then l else M.p q))
    by_cases e : q = i
    · rw [if_pos e, if_pos e]; exact sl_keep hr k (fun g h1 h2 => hm (by rw [h1, h2]))
    · rw [if_neg e, if_neg e]; exact sl_keep (s.r q hq) k (fun g h1 h2 => s.nm q hq (by rw [h1, h2]))
  · show (if q = i then l else M.p q).length = 0 ∨ (if q = i then l else M.p q).length = 256
    by_cases e : q = i
    · rw [if_pos e]; exact .inr hl
    · rw [if_neg e]; exact s.l q hq
  · have hz2 : z ∈ (if q = i then l else M.p q) := hz
    by_cases e : q = i
    · rw [if_pos e] at hz2; exact hx z hz2
    · rw [if_neg e] at hz2; exact s.x q z hz2
  · show (if q = i then v else pv q).ownBlock ≠ some mb
    by_cases e : q = i
    · rw [if_pos e]; exact hm
    · rw [if_neg e]; exact s.nm q hq
  · have e' : (if p = i then v else pv p).ownBlock = some g := e
    show (if q = i then v else pv q).ownBlock ≠ some g
    by_cases h1 : p = i
    · rw [if_pos h1] at e'
      rw [if_neg (by omega)]
      exact hn q g hq (by omega) e'
    · rw [if_neg h1] at e'
      by_cases h2 : q = i
      · rw [if_pos h2]; exact fun h => hn p g hp h1 h e'
      · rw [if_neg h2]; exact s.nn p q g hp hq hpq e'
theorem Mm.w_new {B mb : Nat} {pv : Nat → Value} {M : Me} {w : World} (s : Mm B mb pv M w) {i : Nat} (hi : i < 32) (b : Bool) :
    Mm B mb pv { M with w := fun j => if j = i then b else M.w j } (w.setCell ⟨mb, 32 + i, Option.none⟩ (.bool b)) := by
  have k : Keep (fun g => g = mb) w (w.setCell ⟨mb, 32 + i, Option.none⟩ (.bool b)) := Keep.setCell (S := fun g => g = mb) (Keep.refl _ w) (p := ⟨mb, 32 + i, Option.none⟩) (fun _ => rfl) _
  refine ⟨?_, fun q hq => sl_keep (s.r q hq) k (fun g h1 h2 => s.nm q hq (by rw [h1, h2])), s.l, s.x, s.nm, s.nn, s.b⟩
  have h := s.c.set (32 + i) (.bool b)
  rw [set_tail _ _ 32 i _ (by simp), map_range_set] at h
  have e : (List.range 32).map (fun j => if j = i then Value.bool b else .bool (M.w j)) = (List.range 32).map fun j => .bool (if j = i then b else M.w j) := by
    apply List.map_congr_left
    intro j _
    split <;> rfl
  rw [e] at h
  exact h
def fillP (l : List Nat) : List Nat := l ++ List.replicate (256 - l.length) 0
theorem fillP_len {l : List Nat} (h : l.length ≤ 256) : (fillP l).length = 256 := by simp [fillP]; omega
theorem fillP_lt {l : List Nat} (h : ∀ y ∈ l, y < 256) : ∀ y ∈ fillP l, y < 256 := by
  intro y hy
  unfold fillP at hy
  rcases List.mem_append.1 hy with h1 | h1
  · exact h y h1
  · rw [(List.mem_replicate.1 h1).2]; decide
/-- The first n pages of a memory that 'some' makes. -/
def someM (here write : Nat) (p q : List Nat) (n : Nat) : Me :=
  ⟨fun j => if j < n ∧ here.testBit j = true then fillP (if j % 2 = 0 then p else q) else [], fun j => decide (j < n) && (here.testBit j && write.testBit j)⟩
theorem someM_no {here write : Nat} {p q : List Nat} {n : Nat} (h : here.testBit n = false) : someM here write p q (n + 1) = someM here write p q n := by
  unfold someM
  congr 1
  · funext j
    by_cases hj : j = n
    · subst hj; simp [h]
    · by_cases h2 : j < n
      · simp [h2, show j < n + 1 by omega]
      · simp [h2, show ¬ j < n + 1 by omega]
  · funext j
    by_cases hj : j = n
    · subst hj; simp [h]
    · by_cases h2 : j < n
      · simp [h2, show j < n + 1 by omega]
      · simp [h2, show ¬ j < n + 1 by omega]
theorem someM_yes {here write : Nat} {p q : List Nat} {n : Nat} (h : here.testBit n = true) : someM here write p q (n + 1) = ⟨fun j => if j = n then fillP (if n % 2 = 0 then p else q) else (someM here write p q n).p j, fun j => if j = n then write.testBit n else (someM here write p q n).w j⟩ := by
  unfold someM
  congr 1
  · funext j
    by_cases hj : j = n
    · subst hj; simp [h]
    · by_cases h2 : j < n
      · simp [h2, hj, show j < n + 1 by omega]
      · simp [h2, hj, show ¬ j < n + 1 by omega]
  · funext j
    by_cases hj : j = n
    · subst hj; simp [h]
    · by_cases h2 : j < n
      · simp [h2, hj, show j < n + 1 by omega]
      · simp [h2, hj, show ¬ j < n + 1 by omega]
/-- Two memories apart from each other. -/
structure S2 (ma mb : Nat) (pa pb : Nat → Value) (M N : Me) (w0 w : World) : Prop where
  a : Mm w0.heap.size ma pa M w
  b : Mm w0.heap.size mb pb N w
  ap : ∀ g, Mm.F ma pa g → ¬ Mm.F mb pb g
  bel : Below w0.heap.size w0 w
theorem S2.below {ma mb : Nat} {pa pb : Nat → Value} {M N : Me} {w0 w w' : World} (s : S2 ma mb pa pb M N w0 w) (h : Below w.heap.size w w') : S2 ma mb pa pb M N w0 w' := ⟨s.a.below h, s.b.below h, s.ap, s.bel.trans (h.mono s.bel.size)⟩
theorem S2.swap {ma mb : Nat} {pa pb : Nat → Value} {M N : Me} {w0 w : World} (s : S2 ma mb pa pb M N w0 w) : S2 mb ma pb pa N M w0 w := ⟨s.b, s.a, fun g h h2 => s.ap g h2 h, s.bel⟩
def updV (pa : Nat → Value) (i : Nat) (v : Value) : Nat → Value := fun j => if j = i then v else pa j
def Me.pg (M : Me) (i : Nat) (l : List Nat) : Me := { M with p := fun j => if j = i then l else M.p j }
def Me.wr (M : Me) (i : Nat) (b : Bool) : Me := { M with w := fun j => if j = i then b else M.w j }
theorem S2.pageA {ma mb : Nat} {pa pb : Nat → Value} {M N : Me} {w0 w : World} (s : S2 ma mb pa pb M N w0 w) {i : Nat} (hi : i < 32) {v : Value} {l : List Nat} (hr : w.ownsRow w0.heap.size 5 1 v l.length (l.map enc8)) (hl : l.length = 256) (hx : ∀ y ∈ l, y < 256) (hf : ∀ g, v.ownBlock = some g → ¬ Mm.F ma pa g ∧ ¬ Mm.F mb pb g) :
    S2 ma mb (updV pa i v) pb (M.pg i l) N w0 (w.setCell ⟨ma, i, Option.none⟩ v) := by
  refine ⟨s.a.page_new hi hr hl hx (fun e => (hf _ e).1 (.inl rfl)) (fun j g hj _ e e2 => (hf g e).1 (.inr ⟨j, hj, e2⟩)), s.b.keep (S := fun g => g = ma) (Keep.setCell (S := fun g => g = ma) (Keep.refl _ w) (p := ⟨ma, i, Option.none⟩) (fun _ => rfl) v) (fun g hg e => s.ap ma (.inl rfl) (by rw [← e]; exact hg)), fun g hg h2 => ?_, s.bel.setCell s.a.b v⟩
  rcases hg with rfl | ⟨j, hj, e⟩
  · exact s.ap g (.inl rfl) h2
  · unfold updV at e
    by_cases h : j = i
    · rw [if_pos h] at e; exact (hf g e).2 h2
    · rw [if_neg h] at e; exact s.ap g (.inr ⟨j, hj, e⟩) h2
theorem S2.wA {ma mb : Nat} {pa pb : Nat → Value} {M N : Me} {w0 w : World} (s : S2 ma mb pa pb M N w0 w) {i : Nat} (hi : i < 32) (b : Bool) : S2 ma mb pa pb (M.wr i b) N w0 (w.setCell ⟨ma, 32 + i, Option.none⟩ (.bool b)) :=
  ⟨s.a.w_new hi b, s.b.keep (S := fun g => g = ma) (Keep.setCell (S := fun g => g = ma) (Keep.refl _ w) (p := ⟨ma, 32 + i, Option.none⟩) (fun _ => rfl) _) (fun g hg e => s.ap ma (.inl rfl) (by rw [← e]; exact hg)), s.ap, s.bel.setCell s.a.b _⟩
theorem S2.fresh {ma mb : Nat} {pa pb : Nat → Value} {M N : Me} {w0 w : World} (s : S2 ma mb pa pb M N w0 w) {g : Nat} (hg : w.heap.size ≤ g) : ¬ Mm.F ma pa g ∧ ¬ Mm.F mb pb g :=
  ⟨fun h => by have := (Mm.F.lt s.a h).2; omega, fun h => by have := (Mm.F.lt s.b h).2; omega⟩
def zeroMem : List Value := List.replicate 32 (.slice none 0 0) ++ List.replicate 32 (.bool false)
theorem zero_mem (w : World) : (zeroValue 47).run Tryd.prog w = .ok (.agg zeroMem.toArray) w := by kernel_rfl
theorem size64 : (Tryd.prog.info? 47).map (·.size) = some 64 := by kernel_rfl
theorem mem_none {B : Nat} {w : World} {mb : Nat} {here write : Nat} {p q : List Nat} (h : Blk w mb zeroMem 47) (hb : B ≤ mb) : Mm B mb (fun _ => .slice none 0 0) (someM here write p q 0) w := by
  have e : ∀ j, (someM here write p q 0).p j = [] := fun j => by unfold someM; simp
  refine ⟨?_, fun i hi => ?_, fun i hi => ?_, fun i y hy => ?_, (fun i hi h => by cases h), (fun i j g _ _ _ h => by cases h), hb⟩
  · have e2 : zeroMem = (List.range 32).map (fun _ => Value.slice none 0 0) ++ (List.range 32).map fun i => .bool ((someM here write p q 0).w i) := rfl
    rw [← e2]; exact h
  · rw [e]; exact World.ownsRow_nil _ _ _ _
  · rw [e]; exact .inl rfl
  · rw [e] at hy; cases hy
def SomeR (here write : Nat) (p q : List Nat) (w0 : World) (e : Ending) (w : World) : Prop := ∃ ma mb pa pb, e = .returned (.tuple #[.pointer (some ⟨ma, 0, none⟩), .pointer (some ⟨mb, 0, none⟩)]) ∧ S2 ma mb pa pb (someM here write p q 32) (someM here write p q 32) w0 w
set_option maxRecDepth 8000 in
set_option maxHeartbeats 8000000 in
theorem mksome_calls (here write : Nat) (vp vq : Value) (p q : List Nat) (w : World) (hp : Row w enc8 vp p) (hq : Row w enc8 vq q) (xp : ∀ y ∈ p, y < 256) (xq : ∀ y ∈ q, y < 256) (lp : p.length ≤ 256) (lq : q.length ≤ 256) :
    Calls Tryd.prog 14 #[.int .u32 (here : Int), .int .u32 (write : Int), vp, vq] w (SomeR here write p q w) := by
  have HP := Lib.hid (fun W (b : Below w.heap.size w W) => hp.below b)
  have HQ := Lib.hid (fun W (b : Below w.heap.size w W) => hq.below b)
  have hz := zero_mem
  have Z1 := Lib.hid (mem_none (B := w.heap.size) (here := here) (write := write) (p := p) (q := q) (Blk.new w zeroMem.toArray 47) (Nat.le_refl _))
  have hs1 : (w.alloc (.cells zeroMem.toArray 47)).heap.size = w.heap.size + 1 := by simp
  have Z2 := Lib.hid (mem_none (B := w.heap.size) (here := here) (write := write) (p := p) (q := q) (Blk.new (w.alloc (.cells zeroMem.toArray 47)) zeroMem.toArray 47) (by rw [hs1]; omega))
  rw [hs1] at Z2
  have B1 : Below w.heap.size w (w.alloc (.cells zeroMem.toArray 47)) := (Below.refl _ _).alloc (Nat.le_refl _) _
  have S0 : Hid (S2 w.heap.size (w.heap.size + 1) (fun _ => .slice none 0 0) (fun _ => .slice none 0 0) (someM here write p q 0) (someM here write p q 0) w ((w.alloc (.cells zeroMem.toArray 47)).alloc (.cells zeroMem.toArray 47))) :=
    ⟨Z1.out.below ((Below.refl _ _).alloc (Nat.le_refl _) _), Z2.out, (fun g h h2 => by
      rcases h with rfl | ⟨_, _, h⟩
      · rcases h2 with h2 | ⟨_, _, h2⟩
        · omega
        · cases h2
      · cases h), B1.alloc (by simp) _⟩
  have hzs : zeroMem.toArray.size = 64 := by decide
  have hzn : ¬ zeroMem.toArray = #[] := fun h => by rw [h] at hzs; simp at hzs
  clear hp hq B1 Z1 Z2 hs1
  generalize zeroMem = ZM at *
  have hh := Lib.hid (fun j => bit_int here j)
  have hw := Lib.hid (fun j => bit_int write j)
  have hh0 : 0 ≤ (here : Int) := by omega
  have hw0 : 0 ≤ (write : Int) := by omega
  obtain ⟨ii, hii, hbz, hbs, hbb⟩ := byte_info
  have HI := Lib.hid hii
  have HZ := Lib.hid hbz
  have HSz := Lib.hid hbs
  have HBy := Lib.hid hbb
  clear hii hbz hbs hbb
  go_enter Tryd.func14, Tryd.ntmps14
  go_upto_region 4 with (fail)
  generalize hw2 : (w.alloc (.cells _ 47)).alloc _ = w2 at *
  clear hw2
  go_loopw [12] (fun vi wr => ∃ (i : Nat) (pa pb : Nat → Value), i ≤ 32 ∧ vi = .int .i64 i ∧ S2 w.heap.size (w.heap.size + 1) pa pb (someM here write p q i) (someM here write p q i) w wr) (fun vi _ => 32 - (intOf vi).toNat)
  case atStart => exact ⟨0, _, _, Nat.zero_le _, rfl, S0.out⟩
  case round =>
    clear S0
    obtain ⟨i, pa, pb, hi, rfl, h⟩ := hrel
    have S1 := Lib.hid h
    clear h
    by_cases hlt : i < 32
    · have hii : (i : Int) ≤ 31 := by omega
      have hi0 : 0 ≤ (i : Int) := by omega
      have e1 := hh.out i
      cases h1 : here.testBit i with
      | false =>
        rw [h1, if_neg (by simp)] at e1
        have E := Lib.hid (someM_no (here := here) (write := write) (p := p) (q := q) h1)
        clear h1
        go_wp2
        all_goals exact ⟨⟨i + 1, pa, pb, by omega, by go_num, by rw [E.out]; exact S1.out⟩, by simp only [intOf]; omega⟩
      | true =>
        rw [h1, if_pos rfl] at e1
        have e2 := hw.out i
        obtain ⟨w3, hm, hsz, hbk, hbl⟩ := make_bytes wr 256 (by decide)
        have hm0 : (Instr.makeSlice 28 (.int .i64 256) (.int .i64 256)).run Tryd.prog wr = .ok (.slice (some ⟨wr.heap.size, 0, none⟩) 256 256) w3 := hm
        have WT : Hid (((write : Int) / 2 ^ i).tmod 2 = if write.testBit i = true then 1 else 0) := e2
        clear e2
        by_cases hm2 : i % 2 = 0
        · have hm3 : (i : Int) % 2 = 0 := by omega
          have HR := Lib.hid (HP.out _ (S1.out.below hbl).bel)
          have hfl := fillP_len lp
          have hfx := fillP_lt xp
          have EY := Lib.hid (someM_yes (here := here) (write := write) (p := p) (q := q) h1)
          rw [show (if i % 2 = 0 then p else q) = p by rw [if_pos hm2]] at EY
          have EM : Hid ((someM here write p q i).p i = []) := by show _ = _; unfold someM; simp
          have HCS := Lib.hid (fun j (hj : j < p.length) => show (w3.cell? ⟨wr.heap.size, 0 + j, none⟩).isSome = true from by
            rw [Nat.zero_add, hbk.cell, List.getElem?_map, List.getElem?_replicate, if_pos (by omega)]; rfl)
          go_upto_region 9 with (fail)
          clear HP HQ hh hw h1 e1 hm2
          go_upto_region 11 with (refine wpList_copy_row (by rfl) (.tmp 31) (.tmp 32) _ _ (by rfl) 5 Tryd.underlying28 size1 wr.heap.size 0 256 256 p (by rfl) (by exact HR.out) lp HCS.out (fun j hj => hbk.unfrozen _) ?_)
          have K4 : Hid (Blk (w3.setCells wr.heap.size 0 (p.map enc8)) wr.heap.size ((fillP p).map enc8) 5) := by
            have h := (Go.Proofs.YtjlodddlbgpcdaaDoor.Arr.Blk.setCells hbk 0 (p.map enc8)).resolve_right (by simp; omega)
            rw [List.take_zero, List.nil_append, Nat.zero_add, List.length_map, ← List.map_drop, ← List.map_append, List.drop_replicate] at h
            exact h
          have S4 := Lib.hid (S1.out.below (below_setCells hbl (Nat.le_refl _) 0 (p.map enc8)))
          have FR := Lib.hid (S1.out.fresh (Nat.le_refl wr.heap.size))
          have GW := Lib.hid S1.out.bel.size
          clear HR HCS hm hm0 hbk hbl hsz S1
          generalize World.setCells _ _ _ _ = w4 at *
          generalize wr.heap.size = g at *
          have R4 := Lib.hid (show w4.ownsRow w.heap.size 5 1 (.slice (some ⟨g, 0, none⟩) 256 256) (fillP p).length ((fillP p).map enc8) from by
            have h := owns_blk K4.out GW.out (by rw [List.length_map, hfl]; decide)
            rw [List.length_map, hfl] at h
            rw [hfl]; exact h)
          have q0 := S4.out.a.cell hlt
          have q1 := S4.out.a.c.unfrozen i
          have hne : w.heap.size ≠ g := fun e => FR.out.1 (.inl e.symm)
          have S5 := Lib.hid (S4.out.pageA hlt R4.out hfl hfx (fun g' e => by injection e with e; rw [← e]; exact FR.out))
          have K5 := Lib.hid (K4.out.other (a := ⟨w.heap.size, i, none⟩) hne (.slice (some ⟨g, 0, none⟩) 256 256))
          clear S4 K4 R4 FR
          go_upto_region 12 with (fail)
          clear q0 q1
          generalize World.setCell _ _ _ = w5 at *
          have HB5 := Lib.hid (Nat.le_trans S5.out.bel.size (Nat.le_refl _))
          have R5 := Lib.hid (Row.drewN (Row.of_blk K5.out) 1)
          rw [hfl] at R5
          have hb1 : 0 + (fillP p).length ≤ maxLen := by rw [hfl]; decide
          have hb2 : (0 + (fillP p).length) * 1 ≤ 140737488355328 := by rw [hfl]; decide
          have ST := Lib.hid (fun v6 w6 (ho : w6.ownsRow w.heap.size 5 1 v6 (0 + (fillP p).length) ([] ++ (fillP p).map enc8)) (hg : (w5.drewN 1).grownBy w6 none) (ha : v6.ownBlock = none ∨ v6.ownBlock = some (w5.drewN 1).heap.size) => show S2 w.heap.size (w.heap.size + 1) (updV pa i (.slice (some ⟨g, 0, none⟩) 256 256)) (updV pb i v6) ((someM here write p q i).pg i (fillP p)) ((someM here write p q i).pg i (fillP p)) w (w6.setCell ⟨w.heap.size + 1, i, none⟩ v6) ∧ w6.cell? ⟨w.heap.size + 1, i, none⟩ = some (pb i) ∧ w6.frozen? ⟨w.heap.size + 1, i, none⟩ = false from by
            rw [Nat.zero_add, List.nil_append] at ho
            have hb6 : Below w5.heap.size w5 w6 := below_grown (below_drewN (Below.refl _ _) 1) hg (fun k e => by cases e)
            have s6 := S5.out.below hb6
            refine ⟨(s6.swap.pageA hlt ho hfl hfx (fun g' e => ?_)).swap, s6.b.cell hlt, s6.b.c.unfrozen i⟩
            have hge : w5.heap.size ≤ g' := by
              rcases ha with h | h
              · rw [h] at e; cases e
              · rw [h] at e; injection e with e; rw [← e]; exact Nat.le_refl _
            exact ⟨(S5.out.fresh hge).2, (S5.out.fresh hge).1⟩)
          go_region_law (first | (refine step_append_row (enc := enc8) (fun _ => rfl) (by rfl) (.const (.slice none 0 0)) (.tmp 45) 28 (by rfl) w.heap.size 5 ii _ 1 Tryd.underlying28 HI.out HZ.out HSz.out HBy.out (by rfl) (.slice none 0 0) 0 [] (by rfl) (World.ownsRow_nil _ _ _ _) _ (fillP p) (by rfl) R5.out hb1 hb2 HB5.out ?_; intro v6 w6 hown hgrow hat; obtain ⟨a6, c6, hv6⟩ := own_form hown; rw [Nat.zero_add, hfl] at hv6; subst hv6; have S6 := Lib.hid (ST.out _ w6 hown hgrow hat).1; have q2 := (ST.out _ w6 hown hgrow hat).2.1; have q3 := (ST.out _ w6 hown hgrow hat).2.2; clear hown hgrow hat))
          go_upto_region 13 with (fail)
          clear q2 q3
          generalize World.setCell _ _ _ = w7 at *
          have q4 := S6.out.a.cellW hlt
          have q5 := S6.out.a.c.unfrozen (32 + i)
          clear S5 K5 R5 ST hb1 hb2 HB5
          have e9 : ¬ (i : Int) < 0 := by omega
          have e10 : (i : Int) < 32 := by omega
          obtain ⟨bt, hbt⟩ : ∃ bt, write.testBit i = bt := ⟨_, rfl⟩
          rw [hbt] at WT EY
          clear hbt
          cases bt with
          | true =>
            have e3 : ((write : Int) / 2 ^ i).tmod 2 = 1 := by have := WT.out; first | (rw [if_pos rfl] at this; exact this) | (rw [if_neg (by simp)] at this; exact this)
            clear WT
            have S8 := Lib.hid ((S6.out.below (below_drewN (Below.refl _ _) 1)).wA hlt true)
            go_still_tail 10, (by kernel_rfl)
            change wpList _ _ _ _ _ (World.drewN _ 1)
            go_upto_region 14 with (fail)
            clear q4 q5 S6
            generalize World.setCell _ _ _ = w8 at *
            have q6 := S8.out.a.cellW hlt
            have q7 := S8.out.b.cellW hlt
            have q8 := S8.out.b.c.unfrozen (32 + i)
            rw [show ((someM here write p q i).pg i (fillP p)).w i = (someM here write p q i).w i from rfl] at q7
            rw [show (((someM here write p q i).pg i (fillP p)).wr i true).w i = true from if_pos rfl] at q6
            have S9 := Lib.hid ((S8.out.below (below_drewN (Below.refl _ _) 1)).swap.wA hlt true).swap
            go_still_tail 11, (by kernel_rfl)
            change wpList _ _ _ _ _ (World.drewN _ 1)
            go_wp2
            all_goals exact ⟨⟨i + 1, _, _, by omega, by go_num, by rw [EY.out]; exact S9⟩, by simp only [intOf]; omega⟩
          | false =>
            have e3 : ((write : Int) / 2 ^ i).tmod 2 = 0 := by have := WT.out; first | (rw [if_pos rfl] at this; exact this) | (rw [if_neg (by simp)] at this; exact this)
            clear WT
            have S8 := Lib.hid ((S6.out.below (below_drewN (Below.refl _ _) 1)).wA hlt false)
            go_still_tail 10, (by kernel_rfl)
            change wpList _ _ _ _ _ (World.drewN _ 1)
            go_upto_region 14 with (fail)
            clear q4 q5 S6
            generalize World.setCell _ _ _ = w8 at *
            have q6 := S8.out.a.cellW hlt
            have q7 := S8.out.b.cellW hlt
            have q8 := S8.out.b.c.unfrozen (32 + i)
            rw [show ((someM here write p q i).pg i (fillP p)).w i = (someM here write p q i).w i from rfl] at q7
            rw [show (((someM here write p q i).pg i (fillP p)).wr i false).w i = false from if_pos rfl] at q6
            have S9 := Lib.hid ((S8.out.below (below_drewN (Below.refl _ _) 1)).swap.wA hlt false).swap
            go_still_tail 11, (by kernel_rfl)
            change wpList _ _ _ _ _ (World.drewN _ 1)
            go_wp2
            all_goals exact ⟨⟨i + 1, _, _, by omega, by go_num, by rw [EY.out]; exact S9⟩, by simp only [intOf]; omega⟩
        · have hm3 : (i : Int) % 2 = 1 := by omega
          have HR := Lib.hid (HQ.out _ (S1.out.below hbl).bel)
          have hfl := fillP_len lq
          have hfx := fillP_lt xq
          have EY := Lib.hid (someM_yes (here := here) (write := write) (p := p) (q := q) h1)
          rw [show (if i % 2 = 0 then p else q) = q by rw [if_neg hm2]] at EY
          have EM : Hid ((someM here write p q i).p i = []) := by show _ = _; unfold someM; simp
          have HCS := Lib.hid (fun j (hj : j < q.length) => show (w3.cell? ⟨wr.heap.size, 0 + j, none⟩).isSome = true from by
            rw [Nat.zero_add, hbk.cell, List.getElem?_map, List.getElem?_replicate, if_pos (by omega)]; rfl)
          go_upto_region 10 with (fail)
          clear HP HQ hh hw h1 e1 hm2
          go_upto_region 11 with (refine wpList_copy_row (by rfl) (.tmp 34) (.tmp 35) _ _ (by rfl) 5 Tryd.underlying28 size1 wr.heap.size 0 256 256 q (by rfl) (by exact HR.out) lq HCS.out (fun j hj => hbk.unfrozen _) ?_)
          have K4 : Hid (Blk (w3.setCells wr.heap.size 0 (q.map enc8)) wr.heap.size ((fillP q).map enc8) 5) := by
            have h := (Go.Proofs.YtjlodddlbgpcdaaDoor.Arr.Blk.setCells hbk 0 (q.map enc8)).resolve_right (by simp; omega)
            rw [List.take_zero, List.nil_append, Nat.zero_add, List.length_map, ← List.map_drop, ← List.map_append, List.drop_replicate] at h
            exact h
          have S4 := Lib.hid (S1.out.below (below_setCells hbl (Nat.le_refl _) 0 (q.map enc8)))
          have FR := Lib.hid (S1.out.fresh (Nat.le_refl wr.heap.size))
          have GW := Lib.hid S1.out.bel.size
          clear HR HCS hm hm0 hbk hbl hsz S1
          generalize World.setCells _ _ _ _ = w4 at *
          generalize wr.heap.size = g at *
          have R4 := Lib.hid (show w4.ownsRow w.heap.size 5 1 (.slice (some ⟨g, 0, none⟩) 256 256) (fillP q).length ((fillP q).map enc8) from by
            have h := owns_blk K4.out GW.out (by rw [List.length_map, hfl]; decide)
            rw [List.length_map, hfl] at h
            rw [hfl]; exact h)
          have q0 := S4.out.a.cell hlt
          have q1 := S4.out.a.c.unfrozen i
          have hne : w.heap.size ≠ g := fun e => FR.out.1 (.inl e.symm)
          have S5 := Lib.hid (S4.out.pageA hlt R4.out hfl hfx (fun g' e => by injection e with e; rw [← e]; exact FR.out))
          have K5 := Lib.hid (K4.out.other (a := ⟨w.heap.size, i, none⟩) hne (.slice (some ⟨g, 0, none⟩) 256 256))
          clear S4 K4 R4 FR
          go_upto_region 12 with (fail)
          clear q0 q1
          generalize World.setCell _ _ _ = w5 at *
          have HB5 := Lib.hid (Nat.le_trans S5.out.bel.size (Nat.le_refl _))
          have R5 := Lib.hid (Row.drewN (Row.of_blk K5.out) 1)
          rw [hfl] at R5
          have hb1 : 0 + (fillP q).length ≤ maxLen := by rw [hfl]; decide
          have hb2 : (0 + (fillP q).length) * 1 ≤ 140737488355328 := by rw [hfl]; decide
          have ST := Lib.hid (fun v6 w6 (ho : w6.ownsRow w.heap.size 5 1 v6 (0 + (fillP q).length) ([] ++ (fillP q).map enc8)) (hg : (w5.drewN 1).grownBy w6 none) (ha : v6.ownBlock = none ∨ v6.ownBlock = some (w5.drewN 1).heap.size) => show S2 w.heap.size (w.heap.size + 1) (updV pa i (.slice (some ⟨g, 0, none⟩) 256 256)) (updV pb i v6) ((someM here write p q i).pg i (fillP q)) ((someM here write p q i).pg i (fillP q)) w (w6.setCell ⟨w.heap.size + 1, i, none⟩ v6) ∧ w6.cell? ⟨w.heap.size + 1, i, none⟩ = some (pb i) ∧ w6.frozen? ⟨w.heap.size + 1, i, none⟩ = false from by
            rw [Nat.zero_add, List.nil_append] at ho
            have hb6 : Below w5.heap.size w5 w6 := below_grown (below_drewN (Below.refl _ _) 1) hg (fun k e => by cases e)
            have s6 := S5.out.below hb6
            refine ⟨(s6.swap.pageA hlt ho hfl hfx (fun g' e => ?_)).swap, s6.b.cell hlt, s6.b.c.unfrozen i⟩
            have hge : w5.heap.size ≤ g' := by
              rcases ha with h | h
              · rw [h] at e; cases e
              · rw [h] at e; injection e with e; rw [← e]; exact Nat.le_refl _
            exact ⟨(S5.out.fresh hge).2, (S5.out.fresh hge).1⟩)
          go_region_law (first | (refine step_append_row (enc := enc8) (fun _ => rfl) (by rfl) (.const (.slice none 0 0)) (.tmp 45) 28 (by rfl) w.heap.size 5 ii _ 1 Tryd.underlying28 HI.out HZ.out HSz.out HBy.out (by rfl) (.slice none 0 0) 0 [] (by rfl) (World.ownsRow_nil _ _ _ _) _ (fillP q) (by rfl) R5.out hb1 hb2 HB5.out ?_; intro v6 w6 hown hgrow hat; obtain ⟨a6, c6, hv6⟩ := own_form hown; rw [Nat.zero_add, hfl] at hv6; subst hv6; have S6 := Lib.hid (ST.out _ w6 hown hgrow hat).1; have q2 := (ST.out _ w6 hown hgrow hat).2.1; have q3 := (ST.out _ w6 hown hgrow hat).2.2; clear hown hgrow hat))
          go_upto_region 13 with (fail)
          clear q2 q3
          generalize World.setCell _ _ _ = w7 at *
          have q4 := S6.out.a.cellW hlt
          have q5 := S6.out.a.c.unfrozen (32 + i)
          clear S5 K5 R5 ST hb1 hb2 HB5
          have e9 : ¬ (i : Int) < 0 := by omega
          have e10 : (i : Int) < 32 := by omega
          obtain ⟨bt, hbt⟩ : ∃ bt, write.testBit i = bt := ⟨_, rfl⟩
          rw [hbt] at WT EY
          clear hbt
          cases bt with
          | true =>
            have e3 : ((write : Int) / 2 ^ i).tmod 2 = 1 := by have := WT.out; first | (rw [if_pos rfl] at this; exact this) | (rw [if_neg (by simp)] at this; exact this)
            clear WT
            have S8 := Lib.hid ((S6.out.below (below_drewN (Below.refl _ _) 1)).wA hlt true)
            go_still_tail 10, (by kernel_rfl)
            change wpList _ _ _ _ _ (World.drewN _ 1)
            go_upto_region 14 with (fail)
            clear q4 q5 S6
            generalize World.setCell _ _ _ = w8 at *
            have q6 := S8.out.a.cellW hlt
            have q7 := S8.out.b.cellW hlt
            have q8 := S8.out.b.c.unfrozen (32 + i)
            rw [show ((someM here write p q i).pg i (fillP q)).w i = (someM here write p q i).w i from rfl] at q7
            rw [show (((someM here write p q i).pg i (fillP q)).wr i true).w i = true from if_pos rfl] at q6
            have S9 := Lib.hid ((S8.out.below (below_drewN (Below.refl _ _) 1)).swap.wA hlt true).swap
            go_still_tail 11, (by kernel_rfl)
            change wpList _ _ _ _ _ (World.drewN _ 1)
            go_wp2
            all_goals exact ⟨⟨i + 1, _, _, by omega, by go_num, by rw [EY.out]; exact S9⟩, by simp only [intOf]; omega⟩
          | false =>
            have e3 : ((write : Int) / 2 ^ i).tmod 2 = 0 := by have := WT.out; first | (rw [if_pos rfl] at this; exact this) | (rw [if_neg (by simp)] at this; exact this)
            clear WT
            have S8 := Lib.hid ((S6.out.below (below_drewN (Below.refl _ _) 1)).wA hlt false)
            go_still_tail 10, (by kernel_rfl)
            change wpList _ _ _ _ _ (World.drewN _ 1)
            go_upto_region 14 with (fail)
            clear q4 q5 S6
            generalize World.setCell _ _ _ = w8 at *
            have q6 := S8.out.a.cellW hlt
            have q7 := S8.out.b.cellW hlt
            have q8 := S8.out.b.c.unfrozen (32 + i)
            rw [show ((someM here write p q i).pg i (fillP q)).w i = (someM here write p q i).w i from rfl] at q7
            rw [show (((someM here write p q i).pg i (fillP q)).wr i false).w i = false from if_pos rfl] at q6
            have S9 := Lib.hid ((S8.out.below (below_drewN (Below.refl _ _) 1)).swap.wA hlt false).swap
            go_still_tail 11, (by kernel_rfl)
            change wpList _ _ _ _ _ (World.drewN _ 1)
            go_wp2
            all_goals exact ⟨⟨i + 1, _, _, by omega, by go_num, by rw [EY.out]; exact S9⟩, by simp only [intOf]; omega⟩
    · have e : i = 32 := by omega
      subst e
      go_wp2
      go_ret2
      exact ⟨_, _, pa, pb, rfl, S1.out⟩
end Go.Proofs.YtjlodddlbgpcdaaDoor.Walks
