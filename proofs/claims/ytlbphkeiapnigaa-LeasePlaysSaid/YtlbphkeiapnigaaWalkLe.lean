/- Walks through the functions of the statement, and the statement over them: each contract says what the call answers and that nothing else changes. -/
import Derived.Test.YtlbphkeiapnigaaProg
import Derived.Test.YtlbphkeiapnigaaBits
import Derived.Test.YtlbphkeiapnigaaHeap
import Derived.Test.YtlbphkeiapnigaaAid
import Derived.Lib.Hide
import Derived.Test.YtlbphkeiapnigaaArr
import Derived.Test.YtlbphkeiapnigaaEql
import Derived.Test.YtlbphkeiapnigaaWalkBook3
import Derived.WalkKit
import Derived.WalkSpells
import Derived.WalkLawsBesides
import Derived.Deep.QuietTactic
import Derived.BigQuiet
import Derived.Deep.RegionHeld3
import Derived.Deep.DeepCutAuto
import Derived.Deep.CutBlock
import Derived.Lib.SlBytesConst
import Derived.StillTailTactics
import Derived.IntWalk
namespace Go.Proofs.Ytlbphkeiapnigaa.Walks
set_option linter.unusedVariables false
set_option linter.unusedSimpArgs false
open Go.RowKit Go.Proofs.Ytlbphkeiapnigaa.Bits Go.Proofs.Ytlbphkeiapnigaa.Heap Go.Proofs.Ytlbphkeiapnigaa.Aid Go.Proofs.Ytlbphkeiapnigaa.Arr Go.Proofs.Ytlbphkeiapnigaa.Eql

/-- A slice of elements of several cells, in whatever later world. -/
theorem rowS_of {w : World} {e : Sh} {v : Value} (h : Fits w (.slice e) [v]) (h0 : 0 < e.size) : ∃ (a : Option Addr) (cap : Nat) (segs : List (List Value)), v = .slice a segs.length cap ∧ segs.length ≤ cap ∧ cap ≤ maxLen ∧ (∀ s ∈ segs, Fits w e s) ∧
    ∀ (i : Nat) (s : List Value), segs[i]? = some s → ∃ b off, a = some ⟨b, off, none⟩ ∧ ∀ wx, Below w.heap.size w wx → wx.rangeAt b (off + i * e.size) s := by
  rcases h with h | ⟨a, len, cap, segs, h1, hl, hm, h2, h3, h4⟩
  · simp only [List.cons.injEq, and_true] at h
    exact ⟨none, 0, [], h, Nat.le_refl _, Nat.zero_le _, (fun s hs => by cases hs), (fun i s hs => by simp at hs)⟩
  · simp only [List.cons.injEq, and_true] at h1
    refine ⟨some a, cap, segs, by rw [h1, h2], by omega, hm, h4, fun i s hs => ?_⟩
    have hlt : i < segs.length := by
      rcases Nat.lt_or_ge i segs.length with h | h
      · exact h
      · rw [List.getElem?_eq_none h] at hs; cases hs
    have hx : segs[0]? = some segs[0] := List.getElem?_eq_getElem (by omega)
    obtain ⟨_, hn0, hc0⟩ := World.cells?_some (h3 0 _ hx)
    have hspot : a.spot = none := by
      have h5 := hc0 0 h0
      rw [Nat.zero_mul] at h5
      have h6 : w.cell? a = segs[0][0]? := h5
      rw [List.getElem?_eq_getElem (by omega)] at h6
      unfold World.cell? at h6
      split at h6
      · split at h6
        · cases h6
        · rename_i hsp
          cases hq : a.spot with
          | none => rfl
          | some q => rw [hq] at hsp; simp at hsp
      · cases h6
    obtain ⟨b, off, sp⟩ := a
    simp only at hspot
    subst hspot
    refine ⟨b, off, rfl, fun wx hb j u hu => ?_⟩
    obtain ⟨_, hn, hc⟩ := World.cells?_some (h3 i s hs)
    have hj : j < e.size := by
      rw [← hn]
      rcases Nat.lt_or_ge j s.length with h | h
      · exact h
      · rw [List.getElem?_eq_none h] at hu; cases hu
    have h7 := hc j hj
    have ea : ((⟨b, off, none⟩ : Addr).add (i * e.size)).add j = ⟨b, off + i * e.size + j, none⟩ := by
      unfold Addr.add
      by_cases h8 : i * e.size = 0
      · rw [if_pos h8]
        by_cases h9 : j = 0
        · rw [if_pos h9, h8, h9]; rfl
        · rw [if_neg h9, h8]; rfl
      · rw [if_neg h8]
        by_cases h9 : j = 0
        · rw [if_pos h9, h9]; rfl
        · rw [if_neg h9]
    rw [ea, hu] at h7
    rw [hb.cell (World.block_lt_of_cell? w _ h7), h7]
theorem wf_i64_mk {a : Int} (h : -9223372036854775808 ≤ a ∧ a ≤ 9223372036854775807) : (Lit.int .i64 a).wf = true := by
  simp [Lit.wf, IntKind.min, IntKind.max, IntKind.signed, IntKind.bits]; omega
theorem size96A : (Try.prog.info? 24).map (·.size) = some 96 := by kernel_rfl
def leSh : Sh := .seq .bool (.seq (.int .i64) (.seq (.int .i64) (.seq (.int .i64) (.seq .bool (.seq (.int .i64) .nil)))))
/-- Whole numbers in bounds. -/
structure Le.Ok (x : Le) : Prop where
  a : (Lit.int .i64 x.fr).wf = true
  b : (Lit.int .i64 x.page).wf = true
  c : (Lit.int .i64 x.too).wf = true
  d : (Lit.int .i64 x.at_).wf = true
theorem Le.Ok.fits {x : Le} (h : x.Ok) (w : World) : Fits w leSh x.cells :=
  ⟨[_], _, rfl, ⟨_, rfl⟩, [_], _, rfl, ⟨_, rfl, h.a⟩, [_], _, rfl, ⟨_, rfl, h.b⟩, [_], _, rfl, ⟨_, rfl, h.c⟩, [_], _, rfl, ⟨_, rfl⟩, [_], _, rfl, ⟨_, rfl, h.d⟩, rfl⟩
theorem le_of_fits {w : World} {cs : List Value} (h : Fits w leSh cs) : ∃ x : Le, cs = x.cells ∧ x.Ok := by
  obtain ⟨_, _, rfl, ⟨a, rfl⟩, _, _, rfl, ⟨b, rfl, wb⟩, _, _, rfl, ⟨c, rfl, wc⟩, _, _, rfl, ⟨d, rfl, wd⟩, _, _, rfl, ⟨e, rfl⟩, _, _, rfl, ⟨f, rfl, wf⟩, h9⟩ := h
  simp only [Fits] at h9
  subst h9
  exact ⟨⟨a, b, c, d, e, f⟩, rfl, wb, wc, wd, wf⟩
theorem book_of_fits {w : World} {n : Nat} {cs : List Value} (h : Fits w (.rep n leSh) cs) : ∃ b : List Le, b.length = n ∧ cs = bookCells b ∧ ∀ x ∈ b, x.Ok := by
  obtain ⟨segs, h1, rfl, h3⟩ := h
  induction segs generalizing n with
  | nil => exact ⟨[], by simpa using h1, rfl, fun x hx => by cases hx⟩
  | cons s segs ih =>
    obtain ⟨x, rfl, hx⟩ := le_of_fits (h3 s (by simp))
    obtain ⟨l, e1, e2, e3⟩ := ih (n := segs.length) rfl (fun s hs => h3 s (by simp [hs]))
    refine ⟨x :: l, by simp [e1, ← h1], by rw [List.flatten_cons, e2]; rfl, fun y hy => ?_⟩
    simp only [List.mem_cons] at hy
    rcases hy with rfl | hy
    · exact hx
    · exact e3 y hy
theorem zeroLe_ok : zeroLe.Ok := ⟨by decide, by decide, by decide, by decide⟩
theorem eql_le {x : Le} (h : x.Ok) (W : World) : (binOp .eql 23 (.agg x.cells.toArray) (.agg x.cells.toArray)).run Try.prog W = .ok (.bool true) W :=
  (eql_same (P := Try.prog) (w := W) (w0 := W) (n := 3) (t := 23) (s := leSh) (by kernel_rfl) (by omega) (by kernel_rfl) (h.fits W)).1
theorem fnd_eq {p : Le → Bool} {b : List Le} {k : Nat} {x : Le} (hx : b[k]? = some x) (hp : p x = true) (hl : ∀ (i : Nat) (y : Le), i < k → b[i]? = some y → p y = false) : fnd p b = k := by
  have hk : k < b.length := by
    rcases Nat.lt_or_ge k b.length with h | h
    · exact h
    · rw [List.getElem?_eq_none h] at hx; cases hx
  rcases Nat.lt_trichotomy (fnd p b) k with h | h | h
  · have hy : b[fnd p b]? = some b[fnd p b] := List.getElem?_eq_getElem (by omega)
    have h1 := (fnd_spec p b _ _ hy).2 rfl
    rw [hl _ _ h hy] at h1; cases h1
  · exact h
  · have h1 := (fnd_spec p b k x hx).1 h
    rw [hp] at h1; cases h1
theorem fnd_none {p : Le → Bool} {b : List Le} (h : ∀ (i : Nat) (y : Le), b[i]? = some y → p y = false) : fnd p b = b.length := by
  have hl := fnd_le p b
  rcases Nat.lt_or_ge (fnd p b) b.length with h1 | h1
  · have hy : b[fnd p b]? = some b[fnd p b] := List.getElem?_eq_getElem h1
    have h2 := (fnd_spec p b _ _ hy).2 rfl
    rw [h _ _ hy] at h2; cases h2
  · omega
theorem getL_at {b : List Le} {k : Nat} {x : Le} (hk : k < 16) (hx : b[k]? = some x) (hon : x.on = true) : getL b (k : Int) = (x, 0) := by
  unfold getL
  rw [if_pos ⟨by omega, by omega⟩, Int.toNat_natCast, List.getD_eq_getElem?_getD, hx]
  show (if x.on = true then _ else _) = _
  rw [if_pos hon]; rfl
/-- A book that offers alone have filled. -/
structure OB (b : List Le) : Prop where
  l : b.length = 16
  z : ∀ x ∈ b, x.on = false → x = zeroLe
  o : ∀ x ∈ b, x.Ok
theorem OB.zero : OB zeroBook := ⟨rfl, fun x hx _ => (List.mem_replicate.1 hx).2, fun x hx => by rw [(List.mem_replicate.1 hx).2]; exact zeroLe_ok⟩
theorem OB.set {b : List Le} (h : OB b) (k : Nat) {x : Le} (hon : x.on = true) (hx : x.Ok) : OB (b.set k x) :=
  ⟨by rw [List.length_set, h.l], (fun y hy hn => by
    rcases List.mem_or_eq_of_mem_set hy with h1 | rfl
    · exact h.z y h1 hn
    · rw [hon] at hn; cases hn), (fun y hy => by
    rcases List.mem_or_eq_of_mem_set hy with h1 | rfl
    · exact h.o y h1
    · exact hx)⟩
theorem rightL_true {vm p : Int} (hv : 0 ≤ vm ∧ vm < 6) (hp : 0 ≤ p ∧ p < 32) : rightL vm p = true := decide_eq_true ⟨hv.1, hv.2, hp.1, hp.2⟩
theorem Le.Ok.mk' {on wr : Bool} {f p t a : Int} (hf : 0 ≤ f ∧ f < 6) (hp : 0 ≤ p ∧ p < 32) (ht : 0 ≤ t ∧ t < 6) (ha : -1 ≤ a ∧ a < 32) : (Le.mk on f p t wr a).Ok :=
  ⟨wf_i64_mk (by show -9223372036854775808 ≤ f ∧ f ≤ 9223372036854775807; omega), wf_i64_mk (by show -9223372036854775808 ≤ p ∧ p ≤ 9223372036854775807; omega), wf_i64_mk (by show -9223372036854775808 ≤ t ∧ t ≤ 9223372036854775807; omega), wf_i64_mk (by show -9223372036854775808 ≤ a ∧ a ≤ 9223372036854775807; omega)⟩
/-- What an offer comes to, of numbers that may be. -/
theorem offer_spec {b : List Le} (hb : b.length = 16) {f p t : Int} {wr : Bool} (hf : 0 ≤ f ∧ f < 6) (hp : 0 ≤ p ∧ p < 32) (ht : 0 ≤ t ∧ t < 6) :
    (offerL b f p t wr = (b, 0, 1) ∧ f = t) ∨ (f ≠ t ∧ offerL b f p t wr = (b, 0, 3)) ∨ (f ≠ t ∧ ∃ (k : Nat) (x : Le), k < 16 ∧ b[k]? = some x ∧ x.on = false ∧ offerL b f p t wr = (b.set k ⟨true, f, p, t, wr, -1⟩, (k : Int), 0)) := by
  unfold offerL
  by_cases e : f = t
  · exact .inl ⟨by rw [if_pos (.inr (.inr e))], e⟩
  · have hn : ¬ (rightL f p = false ∨ rightL t 0 = false ∨ f = t) := by
      rw [rightL_true hf hp, rightL_true ht (by omega)]
      simp [e]
    rw [if_neg hn]
    by_cases hk : fnd (fun x => !x.on) b < 16
    · rw [if_pos hk]
      have hx : b[fnd (fun x => !x.on) b]? = some b[fnd (fun x => !x.on) b] := List.getElem?_eq_getElem (by omega)
      have h1 := (fnd_spec (fun x => !x.on) b _ _ hx).2 rfl
      exact .inr (.inr ⟨e, _, _, hk, hx, by simpa using h1, rfl⟩)
    · rw [if_neg hk]
      exact .inr (.inl ⟨e, rfl⟩)
theorem OB.offer {b : List Le} (h : OB b) {f p t : Int} {wr : Bool} (hf : 0 ≤ f ∧ f < 6) (hp : 0 ≤ p ∧ p < 32) (ht : 0 ≤ t ∧ t < 6) : OB (offerL b f p t wr).1 := by
  rcases offer_spec h.l (wr := wr) hf hp ht with ⟨e, _⟩ | ⟨_, e⟩ | ⟨_, k, x, hk, _, _, e⟩
  · rw [e]; exact h
  · rw [e]; exact h
  · rw [e]; exact h.set k rfl (Le.Ok.mk' hf hp ht (by omega))
theorem fnd_lt {p : Le → Bool} {b : List Le} {k : Nat} {x : Le} (hx : b[k]? = some x) (hp : p x = true) : fnd p b ≤ k := by
  rcases Nat.lt_or_ge k (fnd p b) with h | h
  · rw [(fnd_spec p b k x hx).1 h] at hp; cases hp
  · exact h
/-- Offered, accepted, left, withdrawn. -/
theorem back_law {b : List Le} (h : OB b) {f p t a : Int} {wr : Bool} (hf : 0 ≤ f ∧ f < 6) (hp : 0 ≤ p ∧ p < 32) (ht : 0 ≤ t ∧ t < 6) (ha : 0 ≤ a ∧ a < 32) {k : Nat} {x : Le} (hk : k < 16) (hx : b[k]? = some x) (hon : x.on = false) (hne : f ≠ t) :
    acceptL (b.set k ⟨true, f, p, t, wr, -1⟩) (k : Int) t a = (b.set k ⟨true, f, p, t, wr, a⟩, 0) ∧
    leaveL (b.set k ⟨true, f, p, t, wr, a⟩) (k : Int) t = (b.set k ⟨true, f, p, t, wr, -1⟩, 0) ∧
    withdrawL (b.set k ⟨true, f, p, t, wr, -1⟩) (k : Int) f = (b, 0) ∧
    (0 ≤ atL (b.set k ⟨true, f, p, t, wr, a⟩) t a ∧ atL (b.set k ⟨true, f, p, t, wr, a⟩) t a < 16) := by
  have hkl : k < b.length := by rw [h.l]; exact hk
  have g1 : ∀ y : Le, (b.set k y)[k]? = some y := fun y => List.getElem?_set_self hkl
  have hz : x = zeroLe := h.z x (List.mem_of_getElem? hx) hon
  have ez : b.set k zeroLe = b := by
    rw [← hz]
    rw [List.getElem?_eq_getElem hkl] at hx
    rw [← Option.some.inj hx, List.set_getElem_self]
  refine ⟨?_, ?_, ?_, ?_⟩
  · unfold acceptL
    rw [getL_at hk (g1 _) rfl, if_neg (by simp), if_neg (by simp), if_neg (by simp), if_neg (by rw [rightL_true ht ha]; simp), Int.toNat_natCast, List.set_set]
  · unfold leaveL
    rw [getL_at hk (g1 _) rfl, if_neg (by simp), if_neg (by simp), if_neg (by simp only; omega), Int.toNat_natCast, List.set_set]
  · unfold withdrawL
    rw [getL_at hk (g1 _) rfl, if_neg (by simp), if_neg (by simp), if_neg (by simp), Int.toNat_natCast, List.set_set, ez]
  · unfold atL
    have hlt : fnd (atP t a) (b.set k ⟨true, f, p, t, wr, a⟩) ≤ k := fnd_lt (g1 _) (by simp [atP, ha.1])
    rw [if_pos (by omega)]
    omega
theorem fits_book {b : List Le} {n : Nat} (hn : b.length = n) (ho : ∀ x ∈ b, x.Ok) (w : World) : Fits w (.rep n leSh) (bookCells b) := by
  subst hn
  refine ⟨b.map Le.cells, by simp, ?_, fun s hs => ?_⟩
  · clear ho
    induction b with
    | nil => rfl
    | cons x l ih => rw [bookCells, List.map_cons, List.flatten_cons, ih]
  · obtain ⟨x, hx, rfl⟩ := List.mem_map.1 hs
    exact (ho x hx).fits w
theorem eql_book {b : List Le} (h : OB b) (W : World) : (binOp .eql 25 (.agg (bookCells b).toArray) (.agg (bookCells b).toArray)).run Try.prog W = .ok (.bool true) W :=
  (eql_same (P := Try.prog) (w := W) (w0 := W) (n := 5) (t := 25) (s := .rep 16 leSh) (by kernel_rfl) (by omega) (by kernel_rfl) (fits_book h.l h.o W)).1
/-- An act. -/
structure Ac where
  k : Nat
  n : Int
  vm : Int
  p : Int
  tt : Int
  w : Bool
def Ac.cells (x : Ac) : List Value := [.int .u8 (x.k : Int), .int .i64 x.n, .int .i64 x.vm, .int .i64 x.p, .int .i64 x.tt, .bool x.w]
structure Ac.Ok (x : Ac) : Prop where
  k : x.k < 256
  n : -9223372036854775808 ≤ x.n ∧ x.n ≤ 9223372036854775807
  vm : -9223372036854775808 ≤ x.vm ∧ x.vm ≤ 9223372036854775807
  p : -9223372036854775808 ≤ x.p ∧ x.p ≤ 9223372036854775807
  tt : -9223372036854775808 ≤ x.tt ∧ x.tt ≤ 9223372036854775807
def acSh : Sh := .seq (.int .u8) (.seq (.int .i64) (.seq (.int .i64) (.seq (.int .i64) (.seq (.int .i64) (.seq .bool .nil)))))
theorem ac_of_fits {w : World} {cs : List Value} (h : Fits w acSh cs) : ∃ x : Ac, cs = x.cells ∧ x.Ok := by
  obtain ⟨_, _, rfl, ⟨a, rfl, wa⟩, _, _, rfl, ⟨b, rfl, wb⟩, _, _, rfl, ⟨c, rfl, wc⟩, _, _, rfl, ⟨d, rfl, wd⟩, _, _, rfl, ⟨e, rfl, we⟩, _, _, rfl, ⟨f, rfl⟩, h9⟩ := h
  simp only [Fits] at h9
  subst h9
  obtain ⟨n, rfl, hn⟩ := wf_u8 wa
  exact ⟨⟨n, b, c, d, e, f⟩, rfl, hn, wf_i64 wb, wf_i64 wc, wf_i64 wd, wf_i64 we⟩
theorem u64_rem {n m : Int} (hm : 0 < m) (h64 : m ≤ 1000) : ∃ u v : Int, IntKind.u64.wrap n = u ∧ 0 ≤ u ∧ u ≤ 18446744073709551615 ∧ u % m = v ∧ 0 ≤ v ∧ v < m := by
  refine ⟨_, _, rfl, ?_, ?_, rfl, Int.emod_nonneg _ (by omega), Int.emod_lt_of_pos _ hm⟩
  · rw [wrap_u64]; omega
  · rw [wrap_u64]; omega
end Go.Proofs.Ytlbphkeiapnigaa.Walks
