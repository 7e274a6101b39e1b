/- Walks through the functions of the statement, and the statement over them: each contract says what the call answers and that nothing else changes. -/
import Derived.Test.YtjlodddlbgpcdaaDoorProg
import Derived.Test.YtjlodddlbgpcdaaDoorBits
import Derived.Test.YtjlodddlbgpcdaaDoorHeap
import Derived.Test.YtjlodddlbgpcdaaDoorAid
import Derived.Test.YtjlodddlbgpcdaaDoorArr
import Derived.Test.YtjlodddlbgpcdaaDoorEql
import Derived.Test.YtjlodddlbgpcdaaDoorWalkBase
import Derived.Test.YtjlodddlbgpcdaaDoorWalkCode
import Derived.Test.YtjlodddlbgpcdaaDoorWalkSeat
import Derived.Test.YtjlodddlbgpcdaaDoorWalkRef
import Derived.Test.YtjlodddlbgpcdaaDoorWalkRefR
import Derived.Test.YtjlodddlbgpcdaaDoorWalkBus
import Derived.Test.YtjlodddlbgpcdaaDoorWalkBus2
import Derived.Test.YtjlodddlbgpcdaaDoorWalkRefP
import Derived.Test.YtjlodddlbgpcdaaDoorWalkRefG
import Derived.Test.YtjlodddlbgpcdaaDoorWalkRefL
import Derived.Test.YtjlodddlbgpcdaaDoorWalkDo
import Derived.Test.YtjlodddlbgpcdaaDoorWalkDo2
import Derived.Test.YtjlodddlbgpcdaaDoorWalkStep
import Derived.Test.YtjlodddlbgpcdaaDoorWalkSome
import Derived.Test.YtjlodddlbgpcdaaDoorWalkAwake
import Derived.Test.YtjlodddlbgpcdaaDoorWalkNil
import Derived.Test.YtjlodddlbgpcdaaDoorWalkPl
import Derived.Lib.Hide
import Derived.WalkKit
import Derived.WalkSpells
import Derived.WalkLawsBesides
import Derived.Deep.QuietTactic
import Derived.BigQuiet
import Derived.Deep.RegionHeld3
import Derived.Deep.DeepCutAuto
import Derived.Deep.CutBlock
import Derived.Lib.SlBytesConst
import Derived.StillTailTactics
import Derived.RegionTactic
import Derived.Deep.RegionLaw
import Derived.Laws.BytesString
import Derived.Laws.MakeOwn
import Derived.Deep.AppendLies
import Derived.Laws.CopyOwn
import Derived.Maps.AppendAt
import Derived.Deep.Upon
import Derived.Deep.AppendSrc
import Derived.Shelf.Abstract
import Derived.Shelf.Spec.TrailingZeros
namespace Go.Proofs.YtjlodddlbgpcdaaDoor.Walks
set_option linter.unusedVariables false
set_option linter.unusedSimpArgs false
open Go.RowKit Go.Proofs.YtjlodddlbgpcdaaDoor.Bits Go.Proofs.YtjlodddlbgpcdaaDoor.Heap Go.Proofs.YtjlodddlbgpcdaaDoor.Aid Go.Proofs.YtjlodddlbgpcdaaDoor.Arr Go.Proofs.YtjlodddlbgpcdaaDoor.Eql

theorem lu_eq {va kk : Nat} (hv : va < 2 ^ 64) : wth va 16 48 kk = 2 ^ 16 * (kk % 2 ^ 48) + va % 2 ^ 16 := by
  refine Nat.eq_of_testBit_eq fun i => ?_
  rw [testBit_wth hv kk (by omega), Nat.testBit_two_pow_mul_add _ (Nat.mod_lt _ (by decide))]
  rw [show (16 : Int).toNat = 16 from rfl]
  by_cases h1 : i < 16
  · rw [if_pos h1, Nat.testBit_mod_two_pow, decide_eq_true h1, decide_eq_true (show i < 64 by omega), if_neg (by omega)]
  · rw [if_neg h1, Nat.testBit_mod_two_pow]
    by_cases h2 : i < 64
    · rw [decide_eq_true h2, if_pos (by omega), decide_eq_true (show i - 16 < 48 by omega)]
    · rw [decide_eq_false h2, decide_eq_false (show ¬ i - 16 < 48 by omega)]
      simp
theorem lu_wrap {va kk : Nat} (hv : va < 2 ^ 64) : IntKind.u64.wrap ((va : Int) % 65536 + IntKind.u64.wrap ((kk : Int) * 65536)) = ((wth va 16 48 kk : Nat) : Int) := by
  rw [lu_eq hv, wrap_u64, wrap_u64]
  omega
/-- What the reference's Step has: the seat's copy, the seat that is told, the memory. -/
structure Rs (B mb : Nat) (pv : Nat → Value) (x : Se) (M : Me) (w0 w : World) : Prop where
  k : Keep (fun g => PG pv g) w0 w
  s : Blk w w0.heap.size x.cells 26
  z : Blk w (w0.heap.size + 1) zeroSe.cells 26
  m : Mm B mb pv M w
  f : ∀ g, Mm.F mb pv g → g < w0.heap.size
theorem Rs.new {B mb : Nat} {pv : Nat → Value} {x : Se} {M : Me} {w : World} (s : Mm B mb pv M w) :
    Rs B mb pv x M w ((w.alloc (.cells x.cells.toArray 26)).alloc (.cells zeroSe.cells.toArray 26)) := by
  have b1 : Below w.heap.size w ((w.alloc (.cells x.cells.toArray 26)).alloc (.cells zeroSe.cells.toArray 26)) := ((Below.refl _ _).alloc (Nat.le_refl _) _).alloc (by simp) _
  have k1 := (Blk.new w x.cells.toArray 26).alloc (.cells zeroSe.cells.toArray 26)
  have k2 := Blk.new (w.alloc (.cells x.cells.toArray 26)) zeroSe.cells.toArray 26
  have e1 : (w.alloc (.cells x.cells.toArray 26)).heap.size = w.heap.size + 1 := by simp
  rw [e1] at k2
  exact ⟨Keep.of_below b1, k1, k2, s.below b1, fun g hg => (Mm.F.lt s hg).2⟩
theorem Rs.step {B mb : Nat} {pv : Nat → Value} {x : Se} {M : Me} {w0 w w' : World} (h : Rs B mb pv x M w0 w) (b : Below w.heap.size w w') : Rs B mb pv x M w0 w' :=
  ⟨h.k.step (Keep.of_below (S := fun _ => False) b) (fun _ _ e => e.elim), h.s.below b h.s.lt, h.z.below b h.z.lt, h.m.below b, h.f⟩
theorem Rs.drewN {B mb : Nat} {pv : Nat → Value} {x : Se} {M : Me} {w0 w : World} (h : Rs B mb pv x M w0 w) (n : Nat) : Rs B mb pv x M w0 (w.drewN n) :=
  ⟨h.k.drewN n, h.s.drewN n, h.z.drewN n, (h.m.keep (Keep.drewN (Keep.refl (fun _ => False) w) n) (fun _ _ e => e)), h.f⟩
theorem Rs.not {B mb : Nat} {pv : Nat → Value} {x : Se} {M : Me} {w0 w : World} (h : Rs B mb pv x M w0 w) {g : Nat} (hg : w0.heap.size ≤ g) : ¬ Mm.F mb pv g := fun e => by have := h.f g e; omega
theorem Rs.pg {B mb : Nat} {pv : Nat → Value} {x : Se} {M : Me} {w0 w : World} (h : Rs B mb pv x M w0 w) {g : Nat} (hg : PG pv g) : g < w0.heap.size := h.f g (.inr hg)
theorem Rs.set {B mb : Nat} {pv : Nat → Value} {x x' : Se} {M : Me} {w0 w : World} (h : Rs B mb pv x M w0 w) (i : Nat) (v : Value) (e : x.cells.set i v = x'.cells) : Rs B mb pv x' M w0 (w.setCell ⟨w0.heap.size, i, none⟩ v) := by
  have hk : Keep (fun g => g = w0.heap.size) w (w.setCell ⟨w0.heap.size, i, none⟩ v) := (Keep.refl (fun g => g = w0.heap.size) w).setCell (p := ⟨w0.heap.size, i, none⟩) (fun _ => rfl) v
  refine ⟨h.k.setCell (p := ⟨w0.heap.size, i, none⟩) (fun e => absurd e (by show ¬ w0.heap.size < w0.heap.size; omega)) v, ?_, h.z.other (show w0.heap.size ≠ w0.heap.size + 1 by omega) v, h.m.keep hk (fun g hg e => h.not (Nat.le_of_eq e.symm) hg), h.f⟩
  rw [← e]
  exact h.s.set i v
theorem Rs.reg {B mb : Nat} {pv : Nat → Value} {x : Se} {M : Me} {w0 w : World} (h : Rs B mb pv x M w0 w) (hx : x.Ok) {a : Nat} (ha : a < 22) (v : Nat) : Rs B mb pv (x.reg a v) M w0 (w.setCell ⟨w0.heap.size, a, none⟩ (.int .u64 (v : Int))) :=
  h.set a _ (hx.sr ha v)
theorem Rs.save {B mb : Nat} {pv : Nat → Value} {x : Se} {M M1 : Me} {w0 w w' : World} (h : Rs B mb pv x M w0 w) (m : Mm B mb pv M1 w') (k : Keep (fun g => PG pv g) w w') : Rs B mb pv x M1 w0 w' :=
  ⟨h.k.trans k, h.s.keep k (fun e => by have := h.pg e; omega), h.z.keep k (fun e => by have := h.pg e; omega), m, h.f⟩
/-- What the reference's Step tells. -/
def RStepP (B mb : Nat) (pv : Nat → Value) (o : Out) (w : World) (e : Ending) (w' : World) : Prop :=
  e = .returned (.tuple #[.agg o.x.cells.toArray, .int .u8 (o.k : Int), .int .u64 (o.n : Int)]) ∧ Mm B mb pv o.M w' ∧ Keep (fun g => PG pv g) w w'
/-- The end: the seat that is told is stored. -/
theorem Rs.fin {B mb : Nat} {pv : Nat → Value} {x y : Se} {M : Me} {w0 w : World} (h : Rs B mb pv x M w0 w) (hy : y.Ok) (k n : Nat) :
    RStepP B mb pv ⟨y, M, k, n⟩ w0 (.returned (.tuple #[.agg y.cells.toArray, .int .u8 (k : Int), .int .u64 (n : Int)])) (w.setCells (w0.heap.size + 1) 0 y.cells) ∧ (w.setCells (w0.heap.size + 1) 0 y.cells).rangeAt (w0.heap.size + 1) 0 y.cells := by
  have hk : Keep (fun g => g = w0.heap.size + 1) w (w.setCells (w0.heap.size + 1) 0 y.cells) := keep_setCells (Keep.refl (fun g => g = w0.heap.size + 1) w) (fun _ => rfl) 0 y.cells
  refine ⟨⟨rfl, h.m.keep hk (fun g hg e => h.not (by omega) hg), h.k.step hk (fun i hi e => by omega)⟩, range_all (blk_setAll h.z (by rw [hy.len]; exact zero_ok.len.symm))⟩
theorem getN_at (x : Se) (n time me mw : Int) (hn : 0 ≤ n ∧ n < 9) (ht : 0 ≤ time) (hm : IntKind.u64.wrap me = mw) (o : Int) {b : Bool} (hop : x.op = b) (ho : o = if b = true then 1 else 0 := by rfl) :
    (#[.int .u64 ((x.r.getD 17 0 : Nat) : Int), .int .u64 ((x.r.getD 18 0 : Nat) : Int), .int .u64 ((x.r.getD 19 0 : Nat) : Int), .int .u64 ((x.r.getD 20 0 : Nat) : Int), .int .u64 ((x.r.getD 21 0 : Nat) : Int), .int .u64 (x.ma : Int), .int .u64 o, .int .u64 time, .int .u64 mw] : Array Value).toList[n.toNat]? = some (.int .u64 ((getN x n time me : Nat) : Int)) := by
  subst ho hop
  rcases (show n = 0 ∨ n = 1 ∨ n = 2 ∨ n = 3 ∨ n = 4 ∨ n = 5 ∨ n = 6 ∨ n = 7 ∨ n = 8 by omega) with rfl | rfl | rfl | rfl | rfl | rfl | rfl | rfl | rfl
  · rfl
  · rfl
  · rfl
  · rfl
  · rfl
  · rfl
  · show some (Value.int .u64 (if x.op = true then 1 else 0)) = some (.int .u64 ((flagN x.op : Nat) : Int))
    unfold flagN; split <;> rfl
  · show some (Value.int .u64 time) = some (.int .u64 ((time.toNat : Nat) : Int))
    rw [Int.toNat_of_nonneg ht]
  · show some (Value.int .u64 mw) = some (.int .u64 (((IntKind.u64.wrap me).toNat : Nat) : Int))
    rw [hm, Int.toNat_of_nonneg (by rw [← hm, wrap_u64]; omega)]
end Go.Proofs.YtjlodddlbgpcdaaDoor.Walks
