/- Walks through the functions of the statement, and the statement over them: each contract says what the call answers and that nothing else changes. -/
import Derived.Test.YtjlodddlbgpcdaaDoorProg
import Derived.Test.YtjlodddlbgpcdaaDoorBits
import Derived.Test.YtjlodddlbgpcdaaDoorHeap
import Derived.Test.YtjlodddlbgpcdaaDoorAid
import Derived.Test.YtjlodddlbgpcdaaDoorArr
import Derived.Test.YtjlodddlbgpcdaaDoorEql
import Derived.Test.YtjlodddlbgpcdaaDoorWalkBase
import Derived.Test.YtjlodddlbgpcdaaDoorWalkCode
import Derived.Test.YtjlodddlbgpcdaaDoorWalkSeat
import Derived.Test.YtjlodddlbgpcdaaDoorWalkRef
import Derived.Test.YtjlodddlbgpcdaaDoorWalkRefR
import Derived.Test.YtjlodddlbgpcdaaDoorWalkBus
import Derived.Test.YtjlodddlbgpcdaaDoorWalkBus2
import Derived.Test.YtjlodddlbgpcdaaDoorWalkRefP
import Derived.Test.YtjlodddlbgpcdaaDoorWalkRefG
import Derived.Test.YtjlodddlbgpcdaaDoorWalkRefL
import Derived.Lib.Hide
import Derived.WalkKit
import Derived.WalkSpells
import Derived.WalkLawsBesides
import Derived.Deep.QuietTactic
import Derived.BigQuiet
import Derived.Deep.RegionHeld3
import Derived.Deep.DeepCutAuto
import Derived.Deep.CutBlock
import Derived.Lib.SlBytesConst
import Derived.StillTailTactics
import Derived.RegionTactic
import Derived.Deep.RegionLaw
import Derived.Laws.BytesString
import Derived.Laws.MakeOwn
import Derived.Deep.AppendLies
import Derived.Laws.CopyOwn
import Derived.Maps.AppendAt
import Derived.Deep.Upon
import Derived.Deep.AppendSrc
import Derived.Shelf.Abstract
import Derived.Shelf.Spec.TrailingZeros
namespace Go.Proofs.YtjlodddlbgpcdaaDoor.Walks
set_option linter.unusedVariables false
set_option linter.unusedSimpArgs false
open Go.RowKit Go.Proofs.YtjlodddlbgpcdaaDoor.Bits Go.Proofs.YtjlodddlbgpcdaaDoor.Heap Go.Proofs.YtjlodddlbgpcdaaDoor.Aid Go.Proofs.YtjlodddlbgpcdaaDoor.Arr Go.Proofs.YtjlodddlbgpcdaaDoor.Eql

/-- An instruction. -/
def opA (c a b d : Nat) (n : Int) : Array Value := #[.int .u8 (c : Int), .int .u8 (a : Int), .int .u8 (b : Int), .int .u8 (d : Int), .int .i16 n]
def Se.reg (x : Se) (a v : Nat) : Se := { x with r := x.r.set a v }
theorem Se.Ok.reg {x : Se} (h : x.Ok) {a v : Nat} (hv : v < 2 ^ 64) : (x.reg a v).Ok := ⟨by show (x.r.set a v).length = 22; rw [List.length_set]; exact h.l, set_lt h.w hv, h.s, h.p, h.m⟩
/-- What an instruction leaves: the seat, the memory, what it comes to. -/
structure Out where
  x : Se
  M : Me
  k : Nat
  n : Nat
def DoP (B sb mb : Nat) (pv : Nat → Value) (o : Out) (w : World) (e : Ending) (w' : World) : Prop :=
  e = .returned (.agg (exitA (o.k : Int) (o.n : Int))) ∧ Blk w' sb o.x.cells 26 ∧ Mm B mb pv o.M w' ∧ Keep (fun g => g = sb ∨ PG pv g) w w'
/-- The seat is apart from the memory. -/
structure Apt (sb mb : Nat) (pv : Nat → Value) : Prop where
  m : sb ≠ mb
  p : ¬ PG pv sb
/-- What stands behind the first lines: the own boxes, the seat, the memory. -/
structure D0 (B sb mb : Nat) (pv : Nat → Value) (x : Se) (M : Me) (time me : Int) (op : Array Value) (w0 w : World) : Prop where
  b : Below w0.heap.size w0 w
  c : Blk w w0.heap.size (cpuA sb mb time me).toList 67
  o : Blk w (w0.heap.size + 1) op.toList 74
  e : Blk w (w0.heap.size + 1 + 1) (exitA 0 0).toList 50
  s : Blk w sb x.cells 26
  m : Mm B mb pv M w
  l : sb < w0.heap.size
theorem D0.new {B sb mb : Nat} {pv : Nat → Value} {x : Se} {M : Me} (time me : Int) (op : Array Value) {w : World} (hb : Blk w sb x.cells 26) (s : Mm B mb pv M w) :
    D0 B sb mb pv x M time me op w (((w.alloc (.cells (cpuA sb mb time me) 67)).alloc (.cells op 74)).alloc (.cells (exitA 0 0) 50)) := by
  have b1 : Below w.heap.size w (((w.alloc (.cells (cpuA sb mb time me) 67)).alloc (.cells op 74)).alloc (.cells (exitA 0 0) 50)) :=
    (((Below.refl _ _).alloc (Nat.le_refl _) _).alloc (by simp) _).alloc (by simp; omega) _
  have k1 := ((Blk.new w (cpuA sb mb time me) 67).alloc (.cells op 74)).alloc (.cells (exitA 0 0) 50)
  have k2 := (Blk.new (w.alloc (.cells (cpuA sb mb time me) 67)) op 74).alloc (.cells (exitA 0 0) 50)
  have k3 := Blk.new ((w.alloc (.cells (cpuA sb mb time me) 67)).alloc (.cells op 74)) (exitA 0 0) 50
  have e1 : (w.alloc (.cells (cpuA sb mb time me) 67)).heap.size = w.heap.size + 1 := by simp
  have e2 : ((w.alloc (.cells (cpuA sb mb time me) 67)).alloc (.cells op 74)).heap.size = w.heap.size + 1 + 1 := by simp
  rw [e1] at k2
  rw [e2] at k3
  exact ⟨b1, k1, k2, k3, hb.below b1 hb.lt, s.below b1, hb.lt⟩
theorem D0.drewN {B sb mb : Nat} {pv : Nat → Value} {x : Se} {M : Me} {time me : Int} {op : Array Value} {w0 w : World} (h : D0 B sb mb pv x M time me op w0 w) (n : Nat) : D0 B sb mb pv x M time me op w0 (w.drewN n) :=
  ⟨below_drewN h.b n, h.c.drewN n, h.o.drewN n, h.e.drewN n, h.s.drewN n, h.m.drewN n, h.l⟩
/-- The end: some cells of the seat, and the result, were written. -/
theorem mm_setCell {B mb : Nat} {pv : Nat → Value} {M : Me} {w : World} (s : Mm B mb pv M w) {b i : Nat} (hm : b ≠ mb) (hp : ¬ PG pv b) (v : Value) : Mm B mb pv M (w.setCell ⟨b, i, none⟩ v) :=
  s.keep (S := fun g => g = b) (Keep.setCell (S := fun g => g = b) (Keep.refl _ w) (p := ⟨b, i, none⟩) (fun _ => rfl) v) (fun g hg e => by
    subst e
    rcases hg with h | ⟨j, hj, h⟩
    · exact hm h
    · exact hp ⟨j, hj, h⟩)
/-- A world behind the boxes, in which the seat is x' and the memory M'. -/
structure D1 (B sb mb : Nat) (pv : Nat → Value) (x : Se) (M : Me) (w0 w : World) : Prop where
  k : Keep (fun g => g = sb ∨ PG pv g) w0 w
  e : Blk w (w0.heap.size + 1 + 1) (exitA 0 0).toList 50
  s : Blk w sb x.cells 26
  m : Mm B mb pv M w
  l : sb < w0.heap.size
theorem D0.d1 {B sb mb : Nat} {pv : Nat → Value} {x : Se} {M : Me} {time me : Int} {op : Array Value} {w0 w : World} (h : D0 B sb mb pv x M time me op w0 w) : D1 B sb mb pv x M w0 w :=
  ⟨Keep.of_below h.b, h.e, h.s, h.m, h.l⟩
theorem D1.drewN {B sb mb : Nat} {pv : Nat → Value} {x : Se} {M : Me} {w0 w : World} (h : D1 B sb mb pv x M w0 w) (n : Nat) : D1 B sb mb pv x M w0 (w.drewN n) :=
  ⟨h.k.drewN n, h.e.drewN n, h.s.drewN n, h.m.drewN n, h.l⟩
theorem D1.set {B sb mb : Nat} {pv : Nat → Value} {x x' : Se} {M : Me} {w0 w : World} (h : D1 B sb mb pv x M w0 w) (ap : Apt sb mb pv) (i : Nat) (v : Value) (hx : x.cells.set i v = x'.cells) : D1 B sb mb pv x' M w0 (w.setCell ⟨sb, i, none⟩ v) :=
  ⟨h.k.setCell (p := ⟨sb, i, none⟩) (fun _ => .inl rfl) v, h.e.other (show sb ≠ w0.heap.size + 1 + 1 by have := h.l; omega) v, by have := h.s.set i v; rw [hx] at this; exact this, mm_setCell h.m ap.m ap.p v, h.l⟩
theorem D1.reg {B sb mb : Nat} {pv : Nat → Value} {x : Se} {M : Me} {w0 w : World} (h : D1 B sb mb pv x M w0 w) (ap : Apt sb mb pv) (hx : x.Ok) {a : Nat} (ha : a < 22) (v : Nat) : D1 B sb mb pv (x.reg a v) M w0 (w.setCell ⟨sb, a, none⟩ (.int .u64 (v : Int))) :=
  h.set ap a _ (hx.sr ha v)
theorem PG.lt {B mb : Nat} {pv : Nat → Value} {M : Me} {w : World} (s : Mm B mb pv M w) {g : Nat} (h : PG pv g) : g < w.heap.size := by
  obtain ⟨i, hi, e⟩ := h
  exact (World.ownsRow.lt (s.r i hi) g e).2
/-- The result is written, and it ends. -/
theorem D1.fin {B sb mb : Nat} {pv : Nat → Value} {x : Se} {M : Me} {w0 w : World} (h : D1 B sb mb pv x M w0 w) (hpg : ∀ g, PG pv g → g < w0.heap.size) (hmb : mb < w0.heap.size) (k n : Nat) :
    DoP B sb mb pv ⟨x, M, k, n⟩ w0 (.returned (.agg (exitA (k : Int) (n : Int)))) ((w.setCell ⟨w0.heap.size + 1 + 1, 0, none⟩ (.int .u8 (k : Int))).setCell ⟨w0.heap.size + 1 + 1, 1, none⟩ (.int .u64 (n : Int))) ∧
    Blk ((w.setCell ⟨w0.heap.size + 1 + 1, 0, none⟩ (.int .u8 (k : Int))).setCell ⟨w0.heap.size + 1 + 1, 1, none⟩ (.int .u64 (n : Int))) (w0.heap.size + 1 + 1) (exitA (k : Int) (n : Int)).toList 50 := by
  have hl := h.l
  have hne : w0.heap.size + 1 + 1 ≠ sb := by omega
  have hnp : ¬ PG pv (w0.heap.size + 1 + 1) := fun e => by have := hpg _ e; omega
  have hnm : w0.heap.size + 1 + 1 ≠ mb := by omega
  refine ⟨⟨rfl, (h.s.other hne _).other hne _, mm_setCell (mm_setCell h.m hnm hnp _) hnm hnp _, ?_⟩, (h.e.set 0 _).set 1 _⟩
  exact (h.k.setCell (p := ⟨w0.heap.size + 1 + 1, 0, none⟩) (fun e => absurd e (by show ¬ w0.heap.size + 1 + 1 < w0.heap.size; omega)) _).setCell (p := ⟨w0.heap.size + 1 + 1, 1, none⟩) (fun e => absurd e (by show ¬ w0.heap.size + 1 + 1 < w0.heap.size; omega)) _
def kN (n : Int) : Nat := (IntKind.u64.wrap n).toNat
theorem kN_wrap (n : Int) : IntKind.u64.wrap n = ((kN n : Nat) : Int) := by unfold kN; rw [wrap_u64]; omega
theorem kN_lt (n : Int) : kN n < 2 ^ 64 := by unfold kN; rw [wrap_u64]; omega
def nxN (x : Se) : Nat := (x.r.getD 16 0 + 4) % 2 ^ 64
theorem nx_wrap (x : Se) : IntKind.u64.wrap (((x.r.getD 16 0 : Nat) : Int) + 4) = ((nxN x : Nat) : Int) := by unfold nxN; rw [wrap_u64]; omega
theorem nx_lt (x : Se) : nxN x < 2 ^ 64 := by unfold nxN; omega
def addN (p q : Nat) : Nat := (p + q) % 2 ^ 64
theorem add_wrap (p q : Nat) : IntKind.u64.wrap ((p : Int) + (q : Int)) = ((addN p q : Nat) : Int) := by unfold addN; rw [wrap_u64]; omega
theorem addN_lt (p q : Nat) : addN p q < 2 ^ 64 := by unfold addN; omega
def wfiS (x : Se) : Se := if x.pe &&& x.ma = 0 then { x with st := 1 } else x
theorem mm_upd {B mb sb : Nat} {pv : Nat → Value} {M : Me} {w w' : World} {cs : List Value} {t : TypeId} (s : Mm B mb pv M w) (ap : Apt sb mb pv) (u : Upd sb cs t w w') : Mm B mb pv M w' :=
  s.keep u.k (fun g hg e => by
    subst e
    rcases hg with h | ⟨j, hj, h⟩
    · exact ap.m h
    · exact ap.p ⟨j, hj, h⟩)
theorem D1.upd {B sb mb : Nat} {pv : Nat → Value} {x x' : Se} {M : Me} {w0 w w' : World} (h : D1 B sb mb pv x M w0 w) (ap : Apt sb mb pv) (u : Upd sb x'.cells 26 w w') : D1 B sb mb pv x' M w0 w' :=
  ⟨h.k.step u.k (fun i _ e => .inl e), u.blk h.e (by have := h.l; omega), u.c, mm_upd h.m ap u, h.l⟩
theorem size4c : (Tryd.prog.info? 67).map (·.size) = some 4 := by kernel_rfl
theorem D0.step {B sb mb : Nat} {pv : Nat → Value} {x : Se} {M : Me} {time me : Int} {op : Array Value} {w0 w w' : World} (h : D0 B sb mb pv x M time me op w0 w) (b : Below w.heap.size w w') : D0 B sb mb pv x M time me op w0 w' :=
  ⟨h.b.trans (b.mono h.b.size), h.c.below b h.c.lt, h.o.below b h.o.lt, h.e.below b h.e.lt, h.s.below b h.s.lt, h.m.below b, h.l⟩
/-- Behind a write through the bus. -/
theorem D0.save {B sb mb : Nat} {pv : Nat → Value} {x : Se} {M M' : Me} {time me : Int} {op : Array Value} {w0 w w' : World} (h : D0 B sb mb pv x M time me op w0 w) (ap : Apt sb mb pv) (hpg : ∀ g, PG pv g → g < w0.heap.size) (m : Mm B mb pv M' w') (k : Keep (PG pv) w w') :
    D1 B sb mb pv x M' w0 w' ∧ Blk w' w0.heap.size (cpuA sb mb time me).toList 67 :=
  ⟨⟨(Keep.of_below h.b).step k (fun i _ e => .inr e), h.e.keep k (fun e => by have := hpg _ e; omega), h.s.keep k ap.p, m, h.l⟩, h.c.keep k (fun e => by have := hpg _ e; omega)⟩
def jmpN (p k : Nat) : Nat := (p + 4 * k % 2 ^ 64) % 2 ^ 64
theorem jmp_wrap (p k : Nat) : IntKind.u64.wrap ((p : Int) + IntKind.u64.wrap (4 * (k : Int))) = ((jmpN p k : Nat) : Int) := by unfold jmpN; rw [wrap_u64, wrap_u64]; omega
theorem jmp_lt (p k : Nat) : jmpN p k < 2 ^ 64 := by unfold jmpN; omega
def takenB (c va vb : Nat) : Bool := if c = 14 then decide (va = vb) else if c = 15 then decide (va ≠ vb) else decide (IntKind.i64.wrap (va : Int) < IntKind.i64.wrap (vb : Int))
theorem taken14 (va vb : Nat) (w : World) : Calls Tryd.prog 38 #[.int .u8 14, .int .u64 (va : Int), .int .u64 (vb : Int)] w fun e w' => e = .returned (.bool (takenB 14 va vb)) ∧ w' = w := by
  have h : takenB 14 va vb = ((va : Int) == (vb : Int)) := by unfold takenB; rw [if_pos rfl, Bool.eq_iff_iff]; simp; omega
  rw [h]
  generalize (va : Int) = vi at *
  generalize (vb : Int) = wi at *
  go_enter Tryd.func38, Tryd.ntmps38
  go_wp2
  go_ret
  exact ⟨by simp, rfl⟩
theorem taken15 (va vb : Nat) (w : World) : Calls Tryd.prog 38 #[.int .u8 15, .int .u64 (va : Int), .int .u64 (vb : Int)] w fun e w' => e = .returned (.bool (takenB 15 va vb)) ∧ w' = w := by
  have h : takenB 15 va vb = ((va : Int) != (vb : Int)) := by
    unfold takenB; rw [if_neg (by decide), if_pos rfl, Bool.eq_iff_iff]; simp; omega
  rw [h]
  generalize (va : Int) = vi at *
  generalize (vb : Int) = wi at *
  go_enter Tryd.func38, Tryd.ntmps38
  go_wp2
  go_ret
  exact ⟨by simp, rfl⟩
theorem taken16 (va vb : Nat) (w : World) : Calls Tryd.prog 38 #[.int .u8 16, .int .u64 (va : Int), .int .u64 (vb : Int)] w fun e w' => e = .returned (.bool (takenB 16 va vb)) ∧ w' = w := by
  unfold takenB
  rw [if_neg (by decide), if_neg (by decide)]
  generalize (va : Int) = vi at *
  generalize (vb : Int) = wi at *
  go_enter Tryd.func38, Tryd.ntmps38
  go_wp2
  go_ret
  exact ⟨by simp; rw [IntKind.wrap_i64, IntKind.wrap_i64]; simp only [wrap64], rfl⟩
/-- What two words come to. -/
def sumI (c b d : Nat) : Int :=
  match c with
  | 3 => IntKind.u64.wrap ((b : Int) + d)
  | 4 => IntKind.u64.wrap ((b : Int) - d)
  | 5 => IntKind.u64.wrap ((b : Int) * d)
  | 6 => bits .and .u64 (b : Int) d
  | 7 => bits .or .u64 (b : Int) d
  | 8 => bits .xor .u64 (b : Int) d
  | 9 => IntKind.u64.wrap ((b : Int) * 2 ^ (d % 64))
  | _ => (b : Int) / 2 ^ (d % 64)
theorem and63 {d : Nat} (hd : d < 2 ^ 64) : bits .and .u64 (d : Int) 63 = ((d % 64 : Nat) : Int) := by
  have h := bits_and (k := .u64) rfl (m := d) (n := 63) hd (by decide)
  rw [show ((63 : Nat) : Int) = 63 from rfl] at h
  rw [h, show (63 : Nat) = 2 ^ 6 - 1 from rfl, Nat.and_two_pow_sub_one_eq_mod]
set_option maxHeartbeats 1000000 in
theorem sum3 (b d : Nat) (hd : d < 2 ^ 64) (w : World) : Calls Tryd.prog 43 #[.int .u8 3, .int .u64 (b : Int), .int .u64 (d : Int)] w fun e w' => e = .returned (.int .u64 (sumI 3 b d)) ∧ w' = w := by
  unfold sumI
  generalize (b : Int) = bi at *
  generalize (d : Int) = di at *
  go_enter Tryd.func43, Tryd.ntmps43
  go_wp2
  go_ret
  exact ⟨by simp, rfl⟩
set_option maxHeartbeats 1000000 in
theorem sum4 (b d : Nat) (hd : d < 2 ^ 64) (w : World) : Calls Tryd.prog 43 #[.int .u8 4, .int .u64 (b : Int), .int .u64 (d : Int)] w fun e w' => e = .returned (.int .u64 (sumI 4 b d)) ∧ w' = w := by
  unfold sumI
  generalize (b : Int) = bi at *
  generalize (d : Int) = di at *
  go_enter Tryd.func43, Tryd.ntmps43
  go_wp2
  go_ret
  exact ⟨by simp, rfl⟩
set_option maxHeartbeats 1000000 in
theorem sum5 (b d : Nat) (hd : d < 2 ^ 64) (w : World) : Calls Tryd.prog 43 #[.int .u8 5, .int .u64 (b : Int), .int .u64 (d : Int)] w fun e w' => e = .returned (.int .u64 (sumI 5 b d)) ∧ w' = w := by
  unfold sumI
  generalize (b : Int) = bi at *
  generalize (d : Int) = di at *
  go_enter Tryd.func43, Tryd.ntmps43
  go_wp2
  go_ret
  exact ⟨by simp, rfl⟩
set_option maxHeartbeats 1000000 in
theorem sum6 (b d : Nat) (hd : d < 2 ^ 64) (w : World) : Calls Tryd.prog 43 #[.int .u8 6, .int .u64 (b : Int), .int .u64 (d : Int)] w fun e w' => e = .returned (.int .u64 (sumI 6 b d)) ∧ w' = w := by
  unfold sumI
  generalize (b : Int) = bi at *
  generalize (d : Int) = di at *
  go_enter Tryd.func43, Tryd.ntmps43
  go_wp2
  go_ret
  exact ⟨by simp, rfl⟩
set_option maxHeartbeats 1000000 in
theorem sum7 (b d : Nat) (hd : d < 2 ^ 64) (w : World) : Calls Tryd.prog 43 #[.int .u8 7, .int .u64 (b : Int), .int .u64 (d : Int)] w fun e w' => e = .returned (.int .u64 (sumI 7 b d)) ∧ w' = w := by
  unfold sumI
  generalize (b : Int) = bi at *
  generalize (d : Int) = di at *
  go_enter Tryd.func43, Tryd.ntmps43
  go_wp2
  go_ret
  exact ⟨by simp, rfl⟩
set_option maxHeartbeats 1000000 in
theorem sum8 (b d : Nat) (hd : d < 2 ^ 64) (w : World) : Calls Tryd.prog 43 #[.int .u8 8, .int .u64 (b : Int), .int .u64 (d : Int)] w fun e w' => e = .returned (.int .u64 (sumI 8 b d)) ∧ w' = w := by
  unfold sumI
  generalize (b : Int) = bi at *
  generalize (d : Int) = di at *
  go_enter Tryd.func43, Tryd.ntmps43
  go_wp2
  go_ret
  exact ⟨by simp, rfl⟩
set_option maxHeartbeats 1000000 in
theorem sum9 (b d : Nat) (hd : d < 2 ^ 64) (w : World) : Calls Tryd.prog 43 #[.int .u8 9, .int .u64 (b : Int), .int .u64 (d : Int)] w fun e w' => e = .returned (.int .u64 (sumI 9 b d)) ∧ w' = w := by
  unfold sumI
  have h63 := and63 hd
  obtain ⟨q, hq⟩ : ∃ q, d % 64 = q := ⟨_, rfl⟩
  rw [hq] at h63 ⊢
  have hq0 : 0 ≤ (q : Int) := by omega
  have hq1 : (q : Int) ≤ 63 := by omega
  have hq2 : (q : Int).toNat = q := by omega
  clear hq hd
  generalize (b : Int) = bi at *
  generalize (d : Int) = di at *
  go_enter Tryd.func43, Tryd.ntmps43
  go_wp2
  go_ret
  exact ⟨by simp, rfl⟩
set_option maxHeartbeats 1000000 in
theorem sum10 (b d : Nat) (hd : d < 2 ^ 64) (w : World) : Calls Tryd.prog 43 #[.int .u8 10, .int .u64 (b : Int), .int .u64 (d : Int)] w fun e w' => e = .returned (.int .u64 (sumI 10 b d)) ∧ w' = w := by
  unfold sumI
  have h63 := and63 hd
  obtain ⟨q, hq⟩ : ∃ q, d % 64 = q := ⟨_, rfl⟩
  rw [hq] at h63 ⊢
  have hq0 : 0 ≤ (q : Int) := by omega
  have hq1 : (q : Int) ≤ 63 := by omega
  have hq2 : (q : Int).toNat = q := by omega
  clear hq hd
  generalize (b : Int) = bi at *
  generalize (d : Int) = di at *
  go_enter Tryd.func43, Tryd.ntmps43
  go_wp2
  go_ret
  exact ⟨by simp, rfl⟩
def sumN (c b d : Nat) : Nat := (IntKind.u64.wrap (sumI c b d)).toNat
theorem sumN_lt (c b d : Nat) : sumN c b d < 2 ^ 64 := by unfold sumN; rw [wrap_u64]; omega
theorem wrap_wrap (n : Int) : IntKind.u64.wrap (IntKind.u64.wrap n) = IntKind.u64.wrap n := by rw [wrap_u64, wrap_u64]; omega
theorem toNat_of {n : Int} (h0 : 0 ≤ n) (h1 : n < 18446744073709551616) : n = (((IntKind.u64.wrap n).toNat : Nat) : Int) := by rw [wrap_u64]; omega
theorem sumN_eq (c b d : Nat) (hc : 3 ≤ c ∧ c ≤ 10) (hb : b < 2 ^ 64) (hd : d < 2 ^ 64) : sumI c b d = ((sumN c b d : Nat) : Int) := by
  unfold sumN
  obtain ⟨h1, h2⟩ := hc
  have key : 0 ≤ sumI c b d ∧ sumI c b d < 18446744073709551616 := by
    rcases (show c = 3 ∨ c = 4 ∨ c = 5 ∨ c = 6 ∨ c = 7 ∨ c = 8 ∨ c = 9 ∨ c = 10 by omega) with rfl | rfl | rfl | rfl | rfl | rfl | rfl | rfl
    · rw [show sumI 3 b d = IntKind.u64.wrap ((b : Int) + d) from rfl, wrap_u64]; omega
    · rw [show sumI 4 b d = IntKind.u64.wrap ((b : Int) - d) from rfl, wrap_u64]; omega
    · rw [show sumI 5 b d = IntKind.u64.wrap ((b : Int) * d) from rfl, wrap_u64]; omega
    · rw [show sumI 6 b d = bits .and .u64 (b : Int) d from rfl, bits_and rfl hb hd]
      have := Nat.and_lt_two_pow b hd
      omega
    · rw [show sumI 7 b d = bits .or .u64 (b : Int) d from rfl, bits_or rfl hb hd]
      have := Nat.or_lt_two_pow hb hd
      omega
    · rw [show sumI 8 b d = bits .xor .u64 (b : Int) d from rfl, bits_xor rfl hb hd]
      have := Nat.xor_lt_two_pow hb hd
      omega
    · rw [show sumI 9 b d = IntKind.u64.wrap ((b : Int) * 2 ^ (d % 64)) from rfl, wrap_u64]; omega
    · have h3 : b / 2 ^ (d % 64) ≤ b := Nat.div_le_self _ _
      have h4 : (b : Int) / 2 ^ (d % 64) = ((b / 2 ^ (d % 64) : Nat) : Int) := by simp
      rw [show sumI 10 b d = (b : Int) / 2 ^ (d % 64) from rfl, h4]
      clear h4
      generalize b / 2 ^ (d % 64) = q at *
      omega
  exact toNat_of key.1 key.2
set_option maxRecDepth 8000 in
set_option maxHeartbeats 8000000 in
theorem do_zero {B sb mb : Nat} {pv : Nat → Value} {M : Me} {w : World} (x : Se) (hx : x.Ok) (hb : Blk w sb x.cells 26) (s : Mm B mb pv M w) (ap : Apt sb mb pv) (time me : Int) (a b d : Nat) (n : Int) (ha : a < 16) (hb16 : b < 16) (hn : -32768 ≤ n ∧ n ≤ 32767) :
    Calls Tryd.prog 24 #[.agg (cpuA sb mb time me), .agg (opA 0 a b d n)] w (DoP B sb mb pv ⟨x.reg 16 (nxN x), M, 0, 0⟩ w) := by
  have D := Lib.hid (D0.new time me (opA 0 a b d n) hb s)
  have HPG := Lib.hid (fun g (h : PG pv g) => PG.lt s h)
  have hmb : mb < w.heap.size := s.c.lt
  have hwn : IntKind.i64.wrap n = n := by rw [IntKind.wrap_i64]; omega
  have hwk := kN_wrap n
  have hwx := nx_wrap x
  have KL := Lib.hid (kN_lt n)
  have NL := Lib.hid (nx_lt x)
  have hai : (a : Int) ≤ 15 := by omega
  have hbi : (b : Int) ≤ 15 := by omega
  have hai0 : 0 ≤ (a : Int) := by omega
  have hbi0 : 0 ≤ (b : Int) := by omega
  have hai1 : (a : Int) < 16 := by omega
  have hai2 : ¬ (a : Int) < 0 := by omega
  have hbi2 : ¬ (b : Int) < 0 := by omega
  have hbi1 : (b : Int) < 16 := by omega
  have G16 := Lib.hid (hx.gr (i := 16) (by decide))
  have GA := Lib.hid (hx.gr (i := a) (by omega))
  have GB := Lib.hid (hx.gr (i := b) (by omega))
  have HVA := Lib.hid (getD_lt hx a)
  have HVB := Lib.hid (getD_lt hx b)
  have HPC := Lib.hid (getD_lt hx 16)
  clear hb s
  generalize kN n = kk at *
  generalize nxN x = nx at *
  generalize x.r.getD 16 0 = pc at *
  generalize x.r.getD a 0 = va at *
  generalize x.r.getD b 0 = vb at *
  unfold cpuA opA exitA at *
  go_enter Tryd.func24, Tryd.ntmps24
  go_upto_region 1 with (fail)
  generalize hw1 : ((w.alloc (.cells _ 67)).alloc _).alloc _ = w1 at *
  clear hw1
  have cc0 := D.out.c.cellAt (i := 0) rfl
  have oc0 := D.out.o.cellAt (i := 0) rfl
  have oc1 := D.out.o.cellAt (i := 1) rfl
  have oc2 := D.out.o.cellAt (i := 2) rfl
  have oc4 := D.out.o.cellAt (i := 4) rfl
  have s16 := D.out.s.cellAt G16.out
  have sA := D.out.s.cellAt GA.out
  have sB := D.out.s.cellAt GB.out
  have f16 := D.out.s.unfrozen 16
  have fA := D.out.s.unfrozen a
  go_upto_region 4 with (fail)
  go_quiet (fail)
  have D3 := Lib.hid (D.out.drewN nq)
  clear cc0 oc0 oc1 oc2 oc4 s16 sA sB f16 fA D
  generalize w1.drewN nq = w3 at *
  have cc0 := D3.out.c.cellAt (i := 0) rfl
  have oc0 := D3.out.o.cellAt (i := 0) rfl
  have oc1 := D3.out.o.cellAt (i := 1) rfl
  have s16 := D3.out.s.cellAt G16.out
  have sA := D3.out.s.cellAt GA.out
  have f16 := D3.out.s.unfrozen 16
  have fA := D3.out.s.unfrozen a
  go_upto_region 47 with (fail)
  have E1 := Lib.hid D3.out.d1
  clear D3
  have OK1 := Lib.hid hx
  have t16 := E1.out.s.cellAt (OK1.out.gr (i := 16) (by decide))
  have tf := E1.out.s.unfrozen 16
  have E2 := Lib.hid (E1.out.reg ap OK1.out (a := 16) (by decide) nx)
  have e0 := E2.out.e.cellAt (i := 0) rfl
  have e1 := E2.out.e.cellAt (i := 1) rfl
  have ef0 := E2.out.e.unfrozen 0
  have ef1 := E2.out.e.unfrozen 1
  have F := Lib.hid (E2.out.fin HPG.out hmb 0 0)
  clear E1 E2
  go_wp2
  refine bodyPost_ret (v := .agg #[.int .u8 0, .int .u64 0]) (results_cell_row Tryd.results24 _ _ (w.heap.size + 1 + 1) _ #[.int .u8 0, .int .u64 0] _ _ rfl F.out.2 Tryd.underlying50 rfl (by simpa using size2x)) rfl F.out.1
set_option maxRecDepth 8000 in
set_option maxHeartbeats 8000000 in
theorem do_li {B sb mb : Nat} {pv : Nat → Value} {M : Me} {w : World} (x : Se) (hx : x.Ok) (hb : Blk w sb x.cells 26) (s : Mm B mb pv M w) (ap : Apt sb mb pv) (time me : Int) (a b d : Nat) (n : Int) (ha : a < 16) (hb16 : b < 16) (hn : -32768 ≤ n ∧ n ≤ 32767) :
    Calls Tryd.prog 24 #[.agg (cpuA sb mb time me), .agg (opA 1 a b d n)] w (DoP B sb mb pv ⟨(x.reg a (kN n)).reg 16 (nxN x), M, 0, 0⟩ w) := by
  have D := Lib.hid (D0.new time me (opA 1 a b d n) hb s)
  have HPG := Lib.hid (fun g (h : PG pv g) => PG.lt s h)
  have hmb : mb < w.heap.size := s.c.lt
  have hwn : IntKind.i64.wrap n = n := by rw [IntKind.wrap_i64]; omega
  have hwk := kN_wrap n
  have hwx := nx_wrap x
  have KL := Lib.hid (kN_lt n)
  have NL := Lib.hid (nx_lt x)
  have hai : (a : Int) ≤ 15 := by omega
  have hbi : (b : Int) ≤ 15 := by omega
  have hai0 : 0 ≤ (a : Int) := by omega
  have hbi0 : 0 ≤ (b : Int) := by omega
  have hai1 : (a : Int) < 16 := by omega
  have hai2 : ¬ (a : Int) < 0 := by omega
  have hbi2 : ¬ (b : Int) < 0 := by omega
  have hbi1 : (b : Int) < 16 := by omega
  have G16 := Lib.hid (hx.gr (i := 16) (by decide))
  have GA := Lib.hid (hx.gr (i := a) (by omega))
  have GB := Lib.hid (hx.gr (i := b) (by omega))
  have HVA := Lib.hid (getD_lt hx a)
  have HVB := Lib.hid (getD_lt hx b)
  have HPC := Lib.hid (getD_lt hx 16)
  clear hb s
  generalize kN n = kk at *
  generalize nxN x = nx at *
  generalize x.r.getD 16 0 = pc at *
  generalize x.r.getD a 0 = va at *
  generalize x.r.getD b 0 = vb at *
  unfold cpuA opA exitA at *
  go_enter Tryd.func24, Tryd.ntmps24
  go_upto_region 1 with (fail)
  generalize hw1 : ((w.alloc (.cells _ 67)).alloc _).alloc _ = w1 at *
  clear hw1
  have cc0 := D.out.c.cellAt (i := 0) rfl
  have oc0 := D.out.o.cellAt (i := 0) rfl
  have oc1 := D.out.o.cellAt (i := 1) rfl
  have oc2 := D.out.o.cellAt (i := 2) rfl
  have oc4 := D.out.o.cellAt (i := 4) rfl
  have s16 := D.out.s.cellAt G16.out
  have sA := D.out.s.cellAt GA.out
  have sB := D.out.s.cellAt GB.out
  have f16 := D.out.s.unfrozen 16
  have fA := D.out.s.unfrozen a
  go_upto_region 4 with (fail)
  go_quiet (fail)
  have D3 := Lib.hid (D.out.drewN nq)
  clear cc0 oc0 oc1 oc2 oc4 s16 sA sB f16 fA D
  generalize w1.drewN nq = w3 at *
  have cc0 := D3.out.c.cellAt (i := 0) rfl
  have oc0 := D3.out.o.cellAt (i := 0) rfl
  have oc1 := D3.out.o.cellAt (i := 1) rfl
  have s16 := D3.out.s.cellAt G16.out
  have sA := D3.out.s.cellAt GA.out
  have f16 := D3.out.s.unfrozen 16
  have fA := D3.out.s.unfrozen a
  go_upto_region 9 with (fail)
  have E1 := Lib.hid ((D3.out.d1.drewN 1).reg ap hx (a := a) (by omega) kk)
  clear D3
  go_still_tail 7, (by kernel_rfl)
  change wpList _ _ _ _ _ (World.drewN _ 1)
  go_upto_region 47 with (fail)
  generalize World.setCell _ _ _ = w4 at *
  have OK1 := Lib.hid (hx.reg (a := a) KL.out)
  have t16 := E1.out.s.cellAt (OK1.out.gr (i := 16) (by decide))
  have tf := E1.out.s.unfrozen 16
  have E2 := Lib.hid (E1.out.reg ap OK1.out (a := 16) (by decide) nx)
  have e0 := E2.out.e.cellAt (i := 0) rfl
  have e1 := E2.out.e.cellAt (i := 1) rfl
  have ef0 := E2.out.e.unfrozen 0
  have ef1 := E2.out.e.unfrozen 1
  have F := Lib.hid (E2.out.fin HPG.out hmb 0 0)
  clear E1 E2
  go_wp2
  refine bodyPost_ret (v := .agg #[.int .u8 0, .int .u64 0]) (results_cell_row Tryd.results24 _ _ (w.heap.size + 1 + 1) _ #[.int .u8 0, .int .u64 0] _ _ rfl F.out.2 Tryd.underlying50 rfl (by simpa using size2x)) rfl F.out.1
set_option maxRecDepth 8000 in
set_option maxHeartbeats 8000000 in
theorem do_sum10 {B sb mb : Nat} {pv : Nat → Value} {M : Me} {w : World} (x : Se) (hx : x.Ok) (hb : Blk w sb x.cells 26) (s : Mm B mb pv M w) (ap : Apt sb mb pv) (time me : Int) (a b d : Nat) (n : Int) (ha : a < 16) (hb16 : b < 16) (hn : -32768 ≤ n ∧ n ≤ 32767) (hd : d < 16) :
    Calls Tryd.prog 24 #[.agg (cpuA sb mb time me), .agg (opA 10 a b d n)] w (DoP B sb mb pv ⟨(x.reg a (sumN 10 (x.r.getD b 0) (x.r.getD d 0))).reg 16 (nxN x), M, 0, 0⟩ w) := by
  have D := Lib.hid (D0.new time me (opA 10 a b d n) hb s)
  have HPG := Lib.hid (fun g (h : PG pv g) => PG.lt s h)
  have hmb : mb < w.heap.size := s.c.lt
  have hwn : IntKind.i64.wrap n = n := by rw [IntKind.wrap_i64]; omega
  have hwk := kN_wrap n
  have hwx := nx_wrap x
  have KL := Lib.hid (kN_lt n)
  have NL := Lib.hid (nx_lt x)
  have hai : (a : Int) ≤ 15 := by omega
  have hbi : (b : Int) ≤ 15 := by omega
  have hai0 : 0 ≤ (a : Int) := by omega
  have hbi0 : 0 ≤ (b : Int) := by omega
  have hai1 : (a : Int) < 16 := by omega
  have hai2 : ¬ (a : Int) < 0 := by omega
  have hbi2 : ¬ (b : Int) < 0 := by omega
  have hbi1 : (b : Int) < 16 := by omega
  have G16 := Lib.hid (hx.gr (i := 16) (by decide))
  have GA := Lib.hid (hx.gr (i := a) (by omega))
  have GB := Lib.hid (hx.gr (i := b) (by omega))
  have HVA := Lib.hid (getD_lt hx a)
  have HVB := Lib.hid (getD_lt hx b)
  have HPC := Lib.hid (getD_lt hx 16)
  have GD := Lib.hid (hx.gr (i := d) (by omega))
  have hdi : (d : Int) ≤ 15 := by omega
  have hdi0 : 0 ≤ (d : Int) := by omega
  have hdi1 : (d : Int) < 16 := by omega
  have hdi2 : ¬ (d : Int) < 0 := by omega
  have SC := Lib.hid (fun W => sum10 (x.r.getD b 0) (x.r.getD d 0) (getD_lt hx d) W)
  rw [sumN_eq 10 _ _ (by decide) (getD_lt hx b) (getD_lt hx d)] at SC
  have SL := Lib.hid (sumN_lt 10 (x.r.getD b 0) (x.r.getD d 0))
  generalize sumN 10 (x.r.getD b 0) (x.r.getD d 0) = sm at *
  generalize x.r.getD d 0 = vd at *
  clear hb s
  generalize kN n = kk at *
  generalize nxN x = nx at *
  generalize x.r.getD 16 0 = pc at *
  generalize x.r.getD a 0 = va at *
  generalize x.r.getD b 0 = vb at *
  unfold cpuA opA exitA at *
  go_enter Tryd.func24, Tryd.ntmps24
  go_upto_region 1 with (fail)
  generalize hw1 : ((w.alloc (.cells _ 67)).alloc _).alloc _ = w1 at *
  clear hw1
  have cc0 := D.out.c.cellAt (i := 0) rfl
  have oc0 := D.out.o.cellAt (i := 0) rfl
  have oc1 := D.out.o.cellAt (i := 1) rfl
  have oc2 := D.out.o.cellAt (i := 2) rfl
  have oc4 := D.out.o.cellAt (i := 4) rfl
  have s16 := D.out.s.cellAt G16.out
  have sA := D.out.s.cellAt GA.out
  have sB := D.out.s.cellAt GB.out
  have f16 := D.out.s.unfrozen 16
  have fA := D.out.s.unfrozen a
  go_upto_region 4 with (fail)
  go_quiet (fail)
  have D3 := Lib.hid (D.out.drewN nq)
  clear cc0 oc0 oc1 oc2 oc4 s16 sA sB f16 fA D
  generalize w1.drewN nq = w3 at *
  have cc0 := D3.out.c.cellAt (i := 0) rfl
  have oc0 := D3.out.o.cellAt (i := 0) rfl
  have oc1 := D3.out.o.cellAt (i := 1) rfl
  have s16 := D3.out.s.cellAt G16.out
  have sA := D3.out.s.cellAt GA.out
  have f16 := D3.out.s.unfrozen 16
  have fA := D3.out.s.unfrozen a
  have oc3 := D3.out.o.cellAt (i := 3) rfl
  have sD := D3.out.s.cellAt GD.out
  go_upto_region 7 with (fail)
  have E1 := Lib.hid ((D3.out.d1.drewN 1).reg ap hx (a := a) (by omega) sm)
  clear D3
  go_still_tail 17, (by kernel_rfl)
  still_call (SC.out _)
  repeat still_step
  refine wpStill_nil ?_
  change wpList _ _ _ _ _ (World.drewN _ 1)
  go_upto_region 47 with (fail)
  generalize World.setCell _ _ _ = w4 at *
  have OK1 := Lib.hid (hx.reg (a := a) SL.out)
  have t16 := E1.out.s.cellAt (OK1.out.gr (i := 16) (by decide))
  have tf := E1.out.s.unfrozen 16
  have E2 := Lib.hid (E1.out.reg ap OK1.out (a := 16) (by decide) nx)
  have e0 := E2.out.e.cellAt (i := 0) rfl
  have e1 := E2.out.e.cellAt (i := 1) rfl
  have ef0 := E2.out.e.unfrozen 0
  have ef1 := E2.out.e.unfrozen 1
  have F := Lib.hid (E2.out.fin HPG.out hmb 0 0)
  clear E1 E2
  go_wp2
  refine bodyPost_ret (v := .agg #[.int .u8 0, .int .u64 0]) (results_cell_row Tryd.results24 _ _ (w.heap.size + 1 + 1) _ #[.int .u8 0, .int .u64 0] _ _ rfl F.out.2 Tryd.underlying50 rfl (by simpa using size2x)) rfl F.out.1
set_option maxRecDepth 8000 in
set_option maxHeartbeats 8000000 in
theorem do_addi {B sb mb : Nat} {pv : Nat → Value} {M : Me} {w : World} (x : Se) (hx : x.Ok) (hb : Blk w sb x.cells 26) (s : Mm B mb pv M w) (ap : Apt sb mb pv) (time me : Int) (a b d : Nat) (n : Int) (ha : a < 16) (hb16 : b < 16) (hn : -32768 ≤ n ∧ n ≤ 32767) :
    Calls Tryd.prog 24 #[.agg (cpuA sb mb time me), .agg (opA 11 a b d n)] w (DoP B sb mb pv ⟨(x.reg a (addN (x.r.getD b 0) (kN n))).reg 16 (nxN x), M, 0, 0⟩ w) := by
  have D := Lib.hid (D0.new time me (opA 11 a b d n) hb s)
  have HPG := Lib.hid (fun g (h : PG pv g) => PG.lt s h)
  have hmb : mb < w.heap.size := s.c.lt
  have hwn : IntKind.i64.wrap n = n := by rw [IntKind.wrap_i64]; omega
  have hwk := kN_wrap n
  have hwx := nx_wrap x
  have KL := Lib.hid (kN_lt n)
  have NL := Lib.hid (nx_lt x)
  have hai : (a : Int) ≤ 15 := by omega
  have hbi : (b : Int) ≤ 15 := by omega
  have hai0 : 0 ≤ (a : Int) := by omega
  have hbi0 : 0 ≤ (b : Int) := by omega
  have hai1 : (a : Int) < 16 := by omega
  have hai2 : ¬ (a : Int) < 0 := by omega
  have hbi2 : ¬ (b : Int) < 0 := by omega
  have hbi1 : (b : Int) < 16 := by omega
  have G16 := Lib.hid (hx.gr (i := 16) (by decide))
  have GA := Lib.hid (hx.gr (i := a) (by omega))
  have GB := Lib.hid (hx.gr (i := b) (by omega))
  have HVA := Lib.hid (getD_lt hx a)
  have HVB := Lib.hid (getD_lt hx b)
  have HPC := Lib.hid (getD_lt hx 16)
  have hwa := add_wrap (x.r.getD b 0) (kN n)
  have AL := Lib.hid (addN_lt (x.r.getD b 0) (kN n))
  generalize addN (x.r.getD b 0) (kN n) = ad at *
  clear hb s
  generalize kN n = kk at *
  generalize nxN x = nx at *
  generalize x.r.getD 16 0 = pc at *
  generalize x.r.getD a 0 = va at *
  generalize x.r.getD b 0 = vb at *
  unfold cpuA opA exitA at *
  go_enter Tryd.func24, Tryd.ntmps24
  go_upto_region 1 with (fail)
  generalize hw1 : ((w.alloc (.cells _ 67)).alloc _).alloc _ = w1 at *
  clear hw1
  have cc0 := D.out.c.cellAt (i := 0) rfl
  have oc0 := D.out.o.cellAt (i := 0) rfl
  have oc1 := D.out.o.cellAt (i := 1) rfl
  have oc2 := D.out.o.cellAt (i := 2) rfl
  have oc4 := D.out.o.cellAt (i := 4) rfl
  have s16 := D.out.s.cellAt G16.out
  have sA := D.out.s.cellAt GA.out
  have sB := D.out.s.cellAt GB.out
  have f16 := D.out.s.unfrozen 16
  have fA := D.out.s.unfrozen a
  go_upto_region 4 with (fail)
  go_quiet (fail)
  have D3 := Lib.hid (D.out.drewN nq)
  clear cc0 oc0 oc1 oc2 oc4 s16 sA sB f16 fA D
  generalize w1.drewN nq = w3 at *
  have cc0 := D3.out.c.cellAt (i := 0) rfl
  have oc0 := D3.out.o.cellAt (i := 0) rfl
  have oc1 := D3.out.o.cellAt (i := 1) rfl
  have s16 := D3.out.s.cellAt G16.out
  have sA := D3.out.s.cellAt GA.out
  have f16 := D3.out.s.unfrozen 16
  have fA := D3.out.s.unfrozen a
  go_upto_region 13 with (fail)
  have E1 := Lib.hid ((D3.out.d1.drewN 1).reg ap hx (a := a) (by omega) ad)
  clear D3
  go_still_tail 9, (by kernel_rfl)
  change wpList _ _ _ _ _ (World.drewN _ 1)
  go_upto_region 47 with (fail)
  generalize World.setCell _ _ _ = w4 at *
  have OK1 := Lib.hid (hx.reg (a := a) AL.out)
  have t16 := E1.out.s.cellAt (OK1.out.gr (i := 16) (by decide))
  have tf := E1.out.s.unfrozen 16
  have E2 := Lib.hid (E1.out.reg ap OK1.out (a := 16) (by decide) nx)
  have e0 := E2.out.e.cellAt (i := 0) rfl
  have e1 := E2.out.e.cellAt (i := 1) rfl
  have ef0 := E2.out.e.unfrozen 0
  have ef1 := E2.out.e.unfrozen 1
  have F := Lib.hid (E2.out.fin HPG.out hmb 0 0)
  clear E1 E2
  go_wp2
  refine bodyPost_ret (v := .agg #[.int .u8 0, .int .u64 0]) (results_cell_row Tryd.results24 _ _ (w.heap.size + 1 + 1) _ #[.int .u8 0, .int .u64 0] _ _ rfl F.out.2 Tryd.underlying50 rfl (by simpa using size2x)) rfl F.out.1
set_option maxRecDepth 8000 in
set_option maxHeartbeats 8000000 in
theorem do_ld {B sb mb : Nat} {pv : Nat → Value} {M : Me} {w : World} (x : Se) (hx : x.Ok) (hb : Blk w sb x.cells 26) (s : Mm B mb pv M w) (ap : Apt sb mb pv) (time me : Int) (a b d : Nat) (n : Int) (ha : a < 16) (hb16 : b < 16) (hn : -32768 ≤ n ∧ n ≤ 32767) (v : Nat) (hv : v < 2 ^ 64) (hld : loadL M (x.r.getD 17 0) (addN (x.r.getD b 0) (kN n)) 8 = some v) :
    Calls Tryd.prog 24 #[.agg (cpuA sb mb time me), .agg (opA 12 a b d n)] w (DoP B sb mb pv ⟨(x.reg a v).reg 16 (nxN x), M, 0, 0⟩ w) := by
  have D := Lib.hid (D0.new time me (opA 12 a b d n) hb s)
  have HPG := Lib.hid (fun g (h : PG pv g) => PG.lt s h)
  have hmb : mb < w.heap.size := s.c.lt
  have hwn : IntKind.i64.wrap n = n := by rw [IntKind.wrap_i64]; omega
  have hwk := kN_wrap n
  have hwx := nx_wrap x
  have KL := Lib.hid (kN_lt n)
  have NL := Lib.hid (nx_lt x)
  have hai : (a : Int) ≤ 15 := by omega
  have hbi : (b : Int) ≤ 15 := by omega
  have hai0 : 0 ≤ (a : Int) := by omega
  have hbi0 : 0 ≤ (b : Int) := by omega
  have hai1 : (a : Int) < 16 := by omega
  have hai2 : ¬ (a : Int) < 0 := by omega
  have hbi2 : ¬ (b : Int) < 0 := by omega
  have hbi1 : (b : Int) < 16 := by omega
  have G16 := Lib.hid (hx.gr (i := 16) (by decide))
  have GA := Lib.hid (hx.gr (i := a) (by omega))
  have GB := Lib.hid (hx.gr (i := b) (by omega))
  have HVA := Lib.hid (getD_lt hx a)
  have HVB := Lib.hid (getD_lt hx b)
  have HPC := Lib.hid (getD_lt hx 16)
  have LC := Lib.hid (fun W (hW : Blk W sb x.cells 26) (sW : Mm B mb pv M W) => load_calls x hx hW sW time me (addN (x.r.getD b 0) (kN n)) 8 (addN_lt _ _) (.inr rfl))
  have TC := Lib.hid (fun W (hW : Blk W sb x.cells 26) => ctrap_calls mb x hx hW time me 3 (addN (x.r.getD b 0) (kN n)) (by decide) (addN_lt _ _))
  rw [hld] at LC
  simp only [loadE] at LC
  unfold cpuA at LC
  clear TC hld
  have hwa := add_wrap (x.r.getD b 0) (kN n)
  have AL := Lib.hid (addN_lt (x.r.getD b 0) (kN n))
  generalize addN (x.r.getD b 0) (kN n) = ad at *
  clear hb s
  generalize kN n = kk at *
  generalize nxN x = nx at *
  generalize x.r.getD 16 0 = pc at *
  generalize x.r.getD a 0 = va at *
  generalize x.r.getD b 0 = vb at *
  unfold cpuA opA exitA at *
  go_enter Tryd.func24, Tryd.ntmps24
  go_upto_region 1 with (fail)
  generalize hw1 : ((w.alloc (.cells _ 67)).alloc _).alloc _ = w1 at *
  clear hw1
  have cc0 := D.out.c.cellAt (i := 0) rfl
  have oc0 := D.out.o.cellAt (i := 0) rfl
  have oc1 := D.out.o.cellAt (i := 1) rfl
  have oc2 := D.out.o.cellAt (i := 2) rfl
  have oc4 := D.out.o.cellAt (i := 4) rfl
  have s16 := D.out.s.cellAt G16.out
  have sA := D.out.s.cellAt GA.out
  have sB := D.out.s.cellAt GB.out
  have f16 := D.out.s.unfrozen 16
  have fA := D.out.s.unfrozen a
  go_upto_region 4 with (fail)
  go_quiet (fail)
  have D3 := Lib.hid (D.out.drewN nq)
  clear cc0 oc0 oc1 oc2 oc4 s16 sA sB f16 fA D
  generalize w1.drewN nq = w3 at *
  have cc0 := D3.out.c.cellAt (i := 0) rfl
  have oc0 := D3.out.o.cellAt (i := 0) rfl
  have oc1 := D3.out.o.cellAt (i := 1) rfl
  have s16 := D3.out.s.cellAt G16.out
  have sA := D3.out.s.cellAt GA.out
  have f16 := D3.out.s.unfrozen 16
  have fA := D3.out.s.unfrozen a
  go_upto_region 16 with (first
    | (refine wpList_load_mid rfl 67 (.tmp 2) rfl w.heap.size 0 rfl _ _ (range_all D3.out.c) Tryd.underlying67 rfl size4c ?_)
    | (go_at_call 22; refine (LC.out _ D3.out.s D3.out.m).mono ?_; rintro e w4 ⟨rfl, b4⟩; have D4 := Lib.hid (D3.out.step b4); clear b4))
  clear LC D3
  have cc0 := D4.out.c.cellAt (i := 0) rfl
  have oc0 := D4.out.o.cellAt (i := 0) rfl
  have oc1 := D4.out.o.cellAt (i := 1) rfl
  have s16 := D4.out.s.cellAt G16.out
  have sA := D4.out.s.cellAt GA.out
  have f16 := D4.out.s.unfrozen 16
  have fA := D4.out.s.unfrozen a
  go_upto_region 18 with (fail)
  have E1 := Lib.hid ((D4.out.d1.drewN 1).reg ap hx (a := a) (by omega) v)
  clear D4
  go_still_tail 7, (by kernel_rfl)
  change wpList _ _ _ _ _ (World.drewN _ 1)
  go_upto_region 47 with (fail)
  generalize World.setCell _ _ _ = w5 at *
  have OK1 := Lib.hid (hx.reg (a := a) hv)
  have t16 := E1.out.s.cellAt (OK1.out.gr (i := 16) (by decide))
  have tf := E1.out.s.unfrozen 16
  have E2 := Lib.hid (E1.out.reg ap OK1.out (a := 16) (by decide) nx)
  have e0 := E2.out.e.cellAt (i := 0) rfl
  have e1 := E2.out.e.cellAt (i := 1) rfl
  have ef0 := E2.out.e.unfrozen 0
  have ef1 := E2.out.e.unfrozen 1
  have F := Lib.hid (E2.out.fin HPG.out hmb 0 0)
  clear E1 E2
  go_wp2
  refine bodyPost_ret (v := .agg #[.int .u8 0, .int .u64 0]) (results_cell_row Tryd.results24 _ _ (w.heap.size + 1 + 1) _ #[.int .u8 0, .int .u64 0] _ _ rfl F.out.2 Tryd.underlying50 rfl (by simpa using size2x)) rfl F.out.1
set_option maxRecDepth 8000 in
set_option maxHeartbeats 8000000 in
theorem do_ldBad {B sb mb : Nat} {pv : Nat → Value} {M : Me} {w : World} (x : Se) (hx : x.Ok) (hb : Blk w sb x.cells 26) (s : Mm B mb pv M w) (ap : Apt sb mb pv) (time me : Int) (a b d : Nat) (n : Int) (ha : a < 16) (hb16 : b < 16) (hn : -32768 ≤ n ∧ n ≤ 32767) (hld : loadL M (x.r.getD 17 0) (addN (x.r.getD b 0) (kN n)) 8 = none) :
    Calls Tryd.prog 24 #[.agg (cpuA sb mb time me), .agg (opA 12 a b d n)] w (DoP B sb mb pv ⟨trapS x 3 (addN (x.r.getD b 0) (kN n)), M, trapK (trapS x 3 (addN (x.r.getD b 0) (kN n))), 3⟩ w) := by
  have D := Lib.hid (D0.new time me (opA 12 a b d n) hb s)
  have HPG := Lib.hid (fun g (h : PG pv g) => PG.lt s h)
  have hmb : mb < w.heap.size := s.c.lt
  have hwn : IntKind.i64.wrap n = n := by rw [IntKind.wrap_i64]; omega
  have hwk := kN_wrap n
  have hwx := nx_wrap x
  have KL := Lib.hid (kN_lt n)
  have NL := Lib.hid (nx_lt x)
  have hai : (a : Int) ≤ 15 := by omega
  have hbi : (b : Int) ≤ 15 := by omega
  have hai0 : 0 ≤ (a : Int) := by omega
  have hbi0 : 0 ≤ (b : Int) := by omega
  have hai1 : (a : Int) < 16 := by omega
  have hai2 : ¬ (a : Int) < 0 := by omega
  have hbi2 : ¬ (b : Int) < 0 := by omega
  have hbi1 : (b : Int) < 16 := by omega
  have G16 := Lib.hid (hx.gr (i := 16) (by decide))
  have GA := Lib.hid (hx.gr (i := a) (by omega))
  have GB := Lib.hid (hx.gr (i := b) (by omega))
  have HVA := Lib.hid (getD_lt hx a)
  have HVB := Lib.hid (getD_lt hx b)
  have HPC := Lib.hid (getD_lt hx 16)
  have LC := Lib.hid (fun W (hW : Blk W sb x.cells 26) (sW : Mm B mb pv M W) => load_calls x hx hW sW time me (addN (x.r.getD b 0) (kN n)) 8 (addN_lt _ _) (.inr rfl))
  have TC := Lib.hid (fun W (hW : Blk W sb x.cells 26) => ctrap_calls mb x hx hW time me 3 (addN (x.r.getD b 0) (kN n)) (by decide) (addN_lt _ _))
  rw [hld] at LC
  simp only [loadE] at LC
  unfold cpuA at LC TC
  unfold exitA at TC
  clear hld
  have hwa := add_wrap (x.r.getD b 0) (kN n)
  have AL := Lib.hid (addN_lt (x.r.getD b 0) (kN n))
  generalize addN (x.r.getD b 0) (kN n) = ad at *
  generalize trapK (trapS x 3 ad) = tk at *
  clear hb s
  generalize kN n = kk at *
  generalize nxN x = nx at *
  generalize x.r.getD 16 0 = pc at *
  generalize x.r.getD a 0 = va at *
  generalize x.r.getD b 0 = vb at *
  unfold cpuA opA exitA at *
  go_enter Tryd.func24, Tryd.ntmps24
  go_upto_region 1 with (fail)
  generalize hw1 : ((w.alloc (.cells _ 67)).alloc _).alloc _ = w1 at *
  clear hw1
  have cc0 := D.out.c.cellAt (i := 0) rfl
  have oc0 := D.out.o.cellAt (i := 0) rfl
  have oc1 := D.out.o.cellAt (i := 1) rfl
  have oc2 := D.out.o.cellAt (i := 2) rfl
  have oc4 := D.out.o.cellAt (i := 4) rfl
  have s16 := D.out.s.cellAt G16.out
  have sA := D.out.s.cellAt GA.out
  have sB := D.out.s.cellAt GB.out
  have f16 := D.out.s.unfrozen 16
  have fA := D.out.s.unfrozen a
  go_upto_region 4 with (fail)
  go_quiet (fail)
  have D3 := Lib.hid (D.out.drewN nq)
  clear cc0 oc0 oc1 oc2 oc4 s16 sA sB f16 fA D
  generalize w1.drewN nq = w3 at *
  have cc0 := D3.out.c.cellAt (i := 0) rfl
  have oc0 := D3.out.o.cellAt (i := 0) rfl
  have oc1 := D3.out.o.cellAt (i := 1) rfl
  have s16 := D3.out.s.cellAt G16.out
  have sA := D3.out.s.cellAt GA.out
  have f16 := D3.out.s.unfrozen 16
  have fA := D3.out.s.unfrozen a
  go_upto_region 16 with (first
    | (refine wpList_load_mid rfl 67 (.tmp 2) rfl w.heap.size 0 rfl _ _ (range_all D3.out.c) Tryd.underlying67 rfl size4c ?_)
    | (go_at_call 22; refine (LC.out _ D3.out.s D3.out.m).mono ?_; rintro e w4 ⟨rfl, b4⟩; have D4 := Lib.hid (D3.out.step b4); clear b4))
  clear LC D3
  go_upto_region 17 with (fail)
  have e0 := D4.out.e.cellAt (i := 0) rfl
  go_wp2_with (first
    | (refine wpList_load_mid rfl 67 (.tmp 2) rfl w.heap.size 0 rfl _ _ (range_all D4.out.c) Tryd.underlying67 rfl size4c ?_)
    | (go_at_call 21; refine (TC.out _ D4.out.s).mono ?_; rintro e w5 ⟨rfl, u5⟩; have E2 := Lib.hid (D4.out.d1.upd ap u5); have g0 := E2.out.e.cellAt (i := 0) rfl; have g1 := E2.out.e.cellAt (i := 1) rfl; have gf0 := E2.out.e.unfrozen 0; have gf1 := E2.out.e.unfrozen 1; clear u5))
  have F := Lib.hid (E2.out.fin HPG.out hmb tk 3)
  refine bodyPost_ret (v := .agg #[.int .u8 (tk : Int), .int .u64 3]) (results_cell_row Tryd.results24 _ _ (w.heap.size + 1 + 1) _ #[.int .u8 (tk : Int), .int .u64 3] _ _ rfl F.out.2 Tryd.underlying50 rfl (by simpa using size2x)) rfl F.out.1
set_option maxRecDepth 8000 in
set_option maxHeartbeats 8000000 in
theorem do_st {B sb mb : Nat} {pv : Nat → Value} {M : Me} {w : World} (x : Se) (hx : x.Ok) (hb : Blk w sb x.cells 26) (s : Mm B mb pv M w) (ap : Apt sb mb pv) (time me : Int) (a b d : Nat) (n : Int) (ha : a < 16) (hb16 : b < 16) (hn : -32768 ≤ n ∧ n ≤ 32767) (M1 : Me) (hsv : saveL M (x.r.getD 17 0) (addN (x.r.getD b 0) (kN n)) (x.r.getD a 0) = some M1) :
    Calls Tryd.prog 24 #[.agg (cpuA sb mb time me), .agg (opA 13 a b d n)] w (DoP B sb mb pv ⟨x.reg 16 (nxN x), M1, 0, 0⟩ w) := by
  have D := Lib.hid (D0.new time me (opA 13 a b d n) hb s)
  have HPG := Lib.hid (fun g (h : PG pv g) => PG.lt s h)
  have hmb : mb < w.heap.size := s.c.lt
  have hwn : IntKind.i64.wrap n = n := by rw [IntKind.wrap_i64]; omega
  have hwk := kN_wrap n
  have hwx := nx_wrap x
  have KL := Lib.hid (kN_lt n)
  have NL := Lib.hid (nx_lt x)
  have hai : (a : Int) ≤ 15 := by omega
  have hbi : (b : Int) ≤ 15 := by omega
  have hai0 : 0 ≤ (a : Int) := by omega
  have hbi0 : 0 ≤ (b : Int) := by omega
  have hai1 : (a : Int) < 16 := by omega
  have hai2 : ¬ (a : Int) < 0 := by omega
  have hbi2 : ¬ (b : Int) < 0 := by omega
  have hbi1 : (b : Int) < 16 := by omega
  have G16 := Lib.hid (hx.gr (i := 16) (by decide))
  have GA := Lib.hid (hx.gr (i := a) (by omega))
  have GB := Lib.hid (hx.gr (i := b) (by omega))
  have HVA := Lib.hid (getD_lt hx a)
  have HVB := Lib.hid (getD_lt hx b)
  have HPC := Lib.hid (getD_lt hx 16)
  have SC := Lib.hid (fun W (hW : Blk W sb x.cells 26) (sW : Mm B mb pv M W) => save_calls x hx hW sW time me (addN (x.r.getD b 0) (kN n)) (x.r.getD a 0) (addN_lt _ _) (getD_lt hx a))
  have TC := Lib.hid (fun W (hW : Blk W sb x.cells 26) => ctrap_calls mb x hx hW time me 4 (addN (x.r.getD b 0) (kN n)) (by decide) (addN_lt _ _))
  rw [hsv] at SC
  unfold SaveR at SC
  simp only [Option.isSome, Option.getD] at SC
  unfold cpuA at SC TC
  unfold exitA at TC
  clear hsv
  clear TC
  have hwa := add_wrap (x.r.getD b 0) (kN n)
  have AL := Lib.hid (addN_lt (x.r.getD b 0) (kN n))
  generalize addN (x.r.getD b 0) (kN n) = ad at *
  clear hb s
  generalize kN n = kk at *
  generalize nxN x = nx at *
  generalize x.r.getD 16 0 = pc at *
  generalize x.r.getD a 0 = va at *
  generalize x.r.getD b 0 = vb at *
  unfold cpuA opA exitA at *
  go_enter Tryd.func24, Tryd.ntmps24
  go_upto_region 1 with (fail)
  generalize hw1 : ((w.alloc (.cells _ 67)).alloc _).alloc _ = w1 at *
  clear hw1
  have cc0 := D.out.c.cellAt (i := 0) rfl
  have oc0 := D.out.o.cellAt (i := 0) rfl
  have oc1 := D.out.o.cellAt (i := 1) rfl
  have oc2 := D.out.o.cellAt (i := 2) rfl
  have oc4 := D.out.o.cellAt (i := 4) rfl
  have s16 := D.out.s.cellAt G16.out
  have sA := D.out.s.cellAt GA.out
  have sB := D.out.s.cellAt GB.out
  have f16 := D.out.s.unfrozen 16
  have fA := D.out.s.unfrozen a
  go_upto_region 4 with (fail)
  go_quiet (fail)
  have D3 := Lib.hid (D.out.drewN nq)
  clear cc0 oc0 oc1 oc2 oc4 s16 sA sB f16 fA D
  generalize w1.drewN nq = w3 at *
  have cc0 := D3.out.c.cellAt (i := 0) rfl
  have oc0 := D3.out.o.cellAt (i := 0) rfl
  have oc1 := D3.out.o.cellAt (i := 1) rfl
  have s16 := D3.out.s.cellAt G16.out
  have sA := D3.out.s.cellAt GA.out
  have f16 := D3.out.s.unfrozen 16
  have fA := D3.out.s.unfrozen a
  go_upto_region 47 with (first
    | (refine wpList_load_mid rfl 67 (.tmp 2) rfl w.heap.size 0 rfl _ _ (range_all D3.out.c) Tryd.underlying67 rfl size4c ?_)
    | (go_at_call 37; refine (SC.out _ D3.out.s D3.out.m).mono ?_; rintro e w4 ⟨rfl, m4, k4⟩; have E1 := Lib.hid (D3.out.save ap HPG.out m4 k4).1; clear m4 k4))
  clear SC D3
  have OK1 := Lib.hid hx
  have t16 := E1.out.s.cellAt (OK1.out.gr (i := 16) (by decide))
  have tf := E1.out.s.unfrozen 16
  have E2 := Lib.hid (E1.out.reg ap OK1.out (a := 16) (by decide) nx)
  have e0 := E2.out.e.cellAt (i := 0) rfl
  have e1 := E2.out.e.cellAt (i := 1) rfl
  have ef0 := E2.out.e.unfrozen 0
  have ef1 := E2.out.e.unfrozen 1
  have F := Lib.hid (E2.out.fin HPG.out hmb 0 0)
  clear E1 E2
  go_wp2
  refine bodyPost_ret (v := .agg #[.int .u8 0, .int .u64 0]) (results_cell_row Tryd.results24 _ _ (w.heap.size + 1 + 1) _ #[.int .u8 0, .int .u64 0] _ _ rfl F.out.2 Tryd.underlying50 rfl (by simpa using size2x)) rfl F.out.1
set_option maxRecDepth 8000 in
set_option maxHeartbeats 8000000 in
theorem do_stBad {B sb mb : Nat} {pv : Nat → Value} {M : Me} {w : World} (x : Se) (hx : x.Ok) (hb : Blk w sb x.cells 26) (s : Mm B mb pv M w) (ap : Apt sb mb pv) (time me : Int) (a b d : Nat) (n : Int) (ha : a < 16) (hb16 : b < 16) (hn : -32768 ≤ n ∧ n ≤ 32767) (hsv : saveL M (x.r.getD 17 0) (addN (x.r.getD b 0) (kN n)) (x.r.getD a 0) = none) :
    Calls Tryd.prog 24 #[.agg (cpuA sb mb time me), .agg (opA 13 a b d n)] w (DoP B sb mb pv ⟨trapS x 4 (addN (x.r.getD b 0) (kN n)), M, trapK (trapS x 4 (addN (x.r.getD b 0) (kN n))), 4⟩ w) := by
  have D := Lib.hid (D0.new time me (opA 13 a b d n) hb s)
  have HPG := Lib.hid (fun g (h : PG pv g) => PG.lt s h)
  have hmb : mb < w.heap.size := s.c.lt
  have hwn : IntKind.i64.wrap n = n := by rw [IntKind.wrap_i64]; omega
  have hwk := kN_wrap n
  have hwx := nx_wrap x
  have KL := Lib.hid (kN_lt n)
  have NL := Lib.hid (nx_lt x)
  have hai : (a : Int) ≤ 15 := by omega
  have hbi : (b : Int) ≤ 15 := by omega
  have hai0 : 0 ≤ (a : Int) := by omega
  have hbi0 : 0 ≤ (b : Int) := by omega
  have hai1 : (a : Int) < 16 := by omega
  have hai2 : ¬ (a : Int) < 0 := by omega
  have hbi2 : ¬ (b : Int) < 0 := by omega
  have hbi1 : (b : Int) < 16 := by omega
  have G16 := Lib.hid (hx.gr (i := 16) (by decide))
  have GA := Lib.hid (hx.gr (i := a) (by omega))
  have GB := Lib.hid (hx.gr (i := b) (by omega))
  have HVA := Lib.hid (getD_lt hx a)
  have HVB := Lib.hid (getD_lt hx b)
  have HPC := Lib.hid (getD_lt hx 16)
  have SC := Lib.hid (fun W (hW : Blk W sb x.cells 26) (sW : Mm B mb pv M W) => save_calls x hx hW sW time me (addN (x.r.getD b 0) (kN n)) (x.r.getD a 0) (addN_lt _ _) (getD_lt hx a))
  have TC := Lib.hid (fun W (hW : Blk W sb x.cells 26) => ctrap_calls mb x hx hW time me 4 (addN (x.r.getD b 0) (kN n)) (by decide) (addN_lt _ _))
  rw [hsv] at SC
  unfold SaveR at SC
  simp only [Option.isSome, Option.getD] at SC
  unfold cpuA at SC TC
  unfold exitA at TC
  clear hsv
  have hwa := add_wrap (x.r.getD b 0) (kN n)
  have AL := Lib.hid (addN_lt (x.r.getD b 0) (kN n))
  generalize addN (x.r.getD b 0) (kN n) = ad at *
  generalize trapK (trapS x 4 ad) = tk at *
  clear hb s
  generalize kN n = kk at *
  generalize nxN x = nx at *
  generalize x.r.getD 16 0 = pc at *
  generalize x.r.getD a 0 = va at *
  generalize x.r.getD b 0 = vb at *
  unfold cpuA opA exitA at *
  go_enter Tryd.func24, Tryd.ntmps24
  go_upto_region 1 with (fail)
  generalize hw1 : ((w.alloc (.cells _ 67)).alloc _).alloc _ = w1 at *
  clear hw1
  have cc0 := D.out.c.cellAt (i := 0) rfl
  have oc0 := D.out.o.cellAt (i := 0) rfl
  have oc1 := D.out.o.cellAt (i := 1) rfl
  have oc2 := D.out.o.cellAt (i := 2) rfl
  have oc4 := D.out.o.cellAt (i := 4) rfl
  have s16 := D.out.s.cellAt G16.out
  have sA := D.out.s.cellAt GA.out
  have sB := D.out.s.cellAt GB.out
  have f16 := D.out.s.unfrozen 16
  have fA := D.out.s.unfrozen a
  go_upto_region 4 with (fail)
  go_quiet (fail)
  have D3 := Lib.hid (D.out.drewN nq)
  clear cc0 oc0 oc1 oc2 oc4 s16 sA sB f16 fA D
  generalize w1.drewN nq = w3 at *
  have cc0 := D3.out.c.cellAt (i := 0) rfl
  have oc0 := D3.out.o.cellAt (i := 0) rfl
  have oc1 := D3.out.o.cellAt (i := 1) rfl
  have s16 := D3.out.s.cellAt G16.out
  have sA := D3.out.s.cellAt GA.out
  have f16 := D3.out.s.unfrozen 16
  have fA := D3.out.s.unfrozen a
  go_upto_region 21 with (first
    | (refine wpList_load_mid rfl 67 (.tmp 2) rfl w.heap.size 0 rfl _ _ (range_all D3.out.c) Tryd.underlying67 rfl size4c ?_)
    | (go_at_call 37; refine (SC.out _ D3.out.s D3.out.m).mono ?_; rintro e w4 ⟨rfl, m4, k4⟩; have D4 := Lib.hid (D3.out.save ap HPG.out m4 k4).1; have C4 := Lib.hid (D3.out.save ap HPG.out m4 k4).2; clear m4 k4))
  clear SC D3
  unfold cpuA at C4
  go_wp2_with (first
    | (refine wpList_load_mid rfl 67 (.tmp 2) rfl w.heap.size 0 rfl _ _ (range_all C4.out) Tryd.underlying67 rfl size4c ?_)
    | (go_at_call 21; refine (TC.out _ D4.out.s).mono ?_; rintro e w5 ⟨rfl, u5⟩; have E2 := Lib.hid (D4.out.upd ap u5); have g0 := E2.out.e.cellAt (i := 0) rfl; have g1 := E2.out.e.cellAt (i := 1) rfl; have gf0 := E2.out.e.unfrozen 0; have gf1 := E2.out.e.unfrozen 1; clear u5))
  have F := Lib.hid (E2.out.fin HPG.out hmb tk 4)
  refine bodyPost_ret (v := .agg #[.int .u8 (tk : Int), .int .u64 4]) (results_cell_row Tryd.results24 _ _ (w.heap.size + 1 + 1) _ #[.int .u8 (tk : Int), .int .u64 4] _ _ rfl F.out.2 Tryd.underlying50 rfl (by simpa using size2x)) rfl F.out.1
set_option maxRecDepth 8000 in
set_option maxHeartbeats 8000000 in
theorem do_br14f {B sb mb : Nat} {pv : Nat → Value} {M : Me} {w : World} (x : Se) (hx : x.Ok) (hb : Blk w sb x.cells 26) (s : Mm B mb pv M w) (ap : Apt sb mb pv) (time me : Int) (a b d : Nat) (n : Int) (ha : a < 16) (hb16 : b < 16) (hn : -32768 ≤ n ∧ n ≤ 32767) (ht : takenB 14 (x.r.getD a 0) (x.r.getD b 0) = false) :
    Calls Tryd.prog 24 #[.agg (cpuA sb mb time me), .agg (opA 14 a b d n)] w (DoP B sb mb pv ⟨x.reg 16 (nxN x), M, 0, 0⟩ w) := by
  have D := Lib.hid (D0.new time me (opA 14 a b d n) hb s)
  have HPG := Lib.hid (fun g (h : PG pv g) => PG.lt s h)
  have hmb : mb < w.heap.size := s.c.lt
  have hwn : IntKind.i64.wrap n = n := by rw [IntKind.wrap_i64]; omega
  have hwk := kN_wrap n
  have hwx := nx_wrap x
  have KL := Lib.hid (kN_lt n)
  have NL := Lib.hid (nx_lt x)
  have hai : (a : Int) ≤ 15 := by omega
  have hbi : (b : Int) ≤ 15 := by omega
  have hai0 : 0 ≤ (a : Int) := by omega
  have hbi0 : 0 ≤ (b : Int) := by omega
  have hai1 : (a : Int) < 16 := by omega
  have hai2 : ¬ (a : Int) < 0 := by omega
  have hbi2 : ¬ (b : Int) < 0 := by omega
  have hbi1 : (b : Int) < 16 := by omega
  have G16 := Lib.hid (hx.gr (i := 16) (by decide))
  have GA := Lib.hid (hx.gr (i := a) (by omega))
  have GB := Lib.hid (hx.gr (i := b) (by omega))
  have HVA := Lib.hid (getD_lt hx a)
  have HVB := Lib.hid (getD_lt hx b)
  have HPC := Lib.hid (getD_lt hx 16)
  have TK := Lib.hid (fun W => taken14 (x.r.getD a 0) (x.r.getD b 0) W)
  rw [ht] at TK
  clear ht
  have hwj := jmp_wrap (x.r.getD 16 0) (kN n)
  generalize jmpN (x.r.getD 16 0) (kN n) = jp at *
  clear hb s
  generalize kN n = kk at *
  generalize nxN x = nx at *
  generalize x.r.getD 16 0 = pc at *
  generalize x.r.getD a 0 = va at *
  generalize x.r.getD b 0 = vb at *
  unfold cpuA opA exitA at *
  go_enter Tryd.func24, Tryd.ntmps24
  go_upto_region 1 with (fail)
  generalize hw1 : ((w.alloc (.cells _ 67)).alloc _).alloc _ = w1 at *
  clear hw1
  have cc0 := D.out.c.cellAt (i := 0) rfl
  have oc0 := D.out.o.cellAt (i := 0) rfl
  have oc1 := D.out.o.cellAt (i := 1) rfl
  have oc2 := D.out.o.cellAt (i := 2) rfl
  have oc4 := D.out.o.cellAt (i := 4) rfl
  have s16 := D.out.s.cellAt G16.out
  have sA := D.out.s.cellAt GA.out
  have sB := D.out.s.cellAt GB.out
  have f16 := D.out.s.unfrozen 16
  have fA := D.out.s.unfrozen a
  go_upto_region 4 with (fail)
  go_quiet (fail)
  have D3 := Lib.hid (D.out.drewN nq)
  clear cc0 oc0 oc1 oc2 oc4 s16 sA sB f16 fA D
  generalize w1.drewN nq = w3 at *
  have cc0 := D3.out.c.cellAt (i := 0) rfl
  have oc0 := D3.out.o.cellAt (i := 0) rfl
  have oc1 := D3.out.o.cellAt (i := 1) rfl
  have s16 := D3.out.s.cellAt G16.out
  have sA := D3.out.s.cellAt GA.out
  have f16 := D3.out.s.unfrozen 16
  have fA := D3.out.s.unfrozen a
  go_upto_region 47 with (go_at_call 38; refine (TK.out _).mono ?_; rintro e w4 ⟨rfl, h4⟩; subst h4)
  have E1 := Lib.hid D3.out.d1
  clear D3
  have OK1 := Lib.hid hx
  have t16 := E1.out.s.cellAt (OK1.out.gr (i := 16) (by decide))
  have tf := E1.out.s.unfrozen 16
  have E2 := Lib.hid (E1.out.reg ap OK1.out (a := 16) (by decide) nx)
  have e0 := E2.out.e.cellAt (i := 0) rfl
  have e1 := E2.out.e.cellAt (i := 1) rfl
  have ef0 := E2.out.e.unfrozen 0
  have ef1 := E2.out.e.unfrozen 1
  have F := Lib.hid (E2.out.fin HPG.out hmb 0 0)
  clear E1 E2
  go_wp2
  refine bodyPost_ret (v := .agg #[.int .u8 0, .int .u64 0]) (results_cell_row Tryd.results24 _ _ (w.heap.size + 1 + 1) _ #[.int .u8 0, .int .u64 0] _ _ rfl F.out.2 Tryd.underlying50 rfl (by simpa using size2x)) rfl F.out.1
set_option maxRecDepth 8000 in
set_option maxHeartbeats 8000000 in
theorem do_br14t {B sb mb : Nat} {pv : Nat → Value} {M : Me} {w : World} (x : Se) (hx : x.Ok) (hb : Blk w sb x.cells 26) (s : Mm B mb pv M w) (ap : Apt sb mb pv) (time me : Int) (a b d : Nat) (n : Int) (ha : a < 16) (hb16 : b < 16) (hn : -32768 ≤ n ∧ n ≤ 32767) (ht : takenB 14 (x.r.getD a 0) (x.r.getD b 0) = true) :
    Calls Tryd.prog 24 #[.agg (cpuA sb mb time me), .agg (opA 14 a b d n)] w (DoP B sb mb pv ⟨x.reg 16 (jmpN (x.r.getD 16 0) (kN n)), M, 0, 0⟩ w) := by
  have D := Lib.hid (D0.new time me (opA 14 a b d n) hb s)
  have HPG := Lib.hid (fun g (h : PG pv g) => PG.lt s h)
  have hmb : mb < w.heap.size := s.c.lt
  have hwn : IntKind.i64.wrap n = n := by rw [IntKind.wrap_i64]; omega
  have hwk := kN_wrap n
  have hwx := nx_wrap x
  have KL := Lib.hid (kN_lt n)
  have NL := Lib.hid (nx_lt x)
  have hai : (a : Int) ≤ 15 := by omega
  have hbi : (b : Int) ≤ 15 := by omega
  have hai0 : 0 ≤ (a : Int) := by omega
  have hbi0 : 0 ≤ (b : Int) := by omega
  have hai1 : (a : Int) < 16 := by omega
  have hai2 : ¬ (a : Int) < 0 := by omega
  have hbi2 : ¬ (b : Int) < 0 := by omega
  have hbi1 : (b : Int) < 16 := by omega
  have G16 := Lib.hid (hx.gr (i := 16) (by decide))
  have GA := Lib.hid (hx.gr (i := a) (by omega))
  have GB := Lib.hid (hx.gr (i := b) (by omega))
  have HVA := Lib.hid (getD_lt hx a)
  have HVB := Lib.hid (getD_lt hx b)
  have HPC := Lib.hid (getD_lt hx 16)
  have TK := Lib.hid (fun W => taken14 (x.r.getD a 0) (x.r.getD b 0) W)
  rw [ht] at TK
  clear ht
  have hwj := jmp_wrap (x.r.getD 16 0) (kN n)
  generalize jmpN (x.r.getD 16 0) (kN n) = jp at *
  clear hb s
  generalize kN n = kk at *
  generalize nxN x = nx at *
  generalize x.r.getD 16 0 = pc at *
  generalize x.r.getD a 0 = va at *
  generalize x.r.getD b 0 = vb at *
  unfold cpuA opA exitA at *
  go_enter Tryd.func24, Tryd.ntmps24
  go_upto_region 1 with (fail)
  generalize hw1 : ((w.alloc (.cells _ 67)).alloc _).alloc _ = w1 at *
  clear hw1
  have cc0 := D.out.c.cellAt (i := 0) rfl
  have oc0 := D.out.o.cellAt (i := 0) rfl
  have oc1 := D.out.o.cellAt (i := 1) rfl
  have oc2 := D.out.o.cellAt (i := 2) rfl
  have oc4 := D.out.o.cellAt (i := 4) rfl
  have s16 := D.out.s.cellAt G16.out
  have sA := D.out.s.cellAt GA.out
  have sB := D.out.s.cellAt GB.out
  have f16 := D.out.s.unfrozen 16
  have fA := D.out.s.unfrozen a
  go_upto_region 4 with (fail)
  go_quiet (fail)
  have D3 := Lib.hid (D.out.drewN nq)
  clear cc0 oc0 oc1 oc2 oc4 s16 sA sB f16 fA D
  generalize w1.drewN nq = w3 at *
  have cc0 := D3.out.c.cellAt (i := 0) rfl
  have oc0 := D3.out.o.cellAt (i := 0) rfl
  have oc1 := D3.out.o.cellAt (i := 1) rfl
  have s16 := D3.out.s.cellAt G16.out
  have sA := D3.out.s.cellAt GA.out
  have f16 := D3.out.s.unfrozen 16
  have fA := D3.out.s.unfrozen a
  go_upto_region 47 with (go_at_call 38; refine (TK.out _).mono ?_; rintro e w4 ⟨rfl, h4⟩; subst h4)
  have E1 := Lib.hid D3.out.d1
  clear D3
  have OK1 := Lib.hid hx
  have t16 := E1.out.s.cellAt (OK1.out.gr (i := 16) (by decide))
  have tf := E1.out.s.unfrozen 16
  have E2 := Lib.hid (E1.out.reg ap OK1.out (a := 16) (by decide) jp)
  have e0 := E2.out.e.cellAt (i := 0) rfl
  have e1 := E2.out.e.cellAt (i := 1) rfl
  have ef0 := E2.out.e.unfrozen 0
  have ef1 := E2.out.e.unfrozen 1
  have F := Lib.hid (E2.out.fin HPG.out hmb 0 0)
  clear E1 E2
  go_wp2
  refine bodyPost_ret (v := .agg #[.int .u8 0, .int .u64 0]) (results_cell_row Tryd.results24 _ _ (w.heap.size + 1 + 1) _ #[.int .u8 0, .int .u64 0] _ _ rfl F.out.2 Tryd.underlying50 rfl (by simpa using size2x)) rfl F.out.1
set_option maxRecDepth 8000 in
set_option maxHeartbeats 8000000 in
theorem do_br15f {B sb mb : Nat} {pv : Nat → Value} {M : Me} {w : World} (x : Se) (hx : x.Ok) (hb : Blk w sb x.cells 26) (s : Mm B mb pv M w) (ap : Apt sb mb pv) (time me : Int) (a b d : Nat) (n : Int) (ha : a < 16) (hb16 : b < 16) (hn : -32768 ≤ n ∧ n ≤ 32767) (ht : takenB 15 (x.r.getD a 0) (x.r.getD b 0) = false) :
    Calls Tryd.prog 24 #[.agg (cpuA sb mb time me), .agg (opA 15 a b d n)] w (DoP B sb mb pv ⟨x.reg 16 (nxN x), M, 0, 0⟩ w) := by
  have D := Lib.hid (D0.new time me (opA 15 a b d n) hb s)
  have HPG := Lib.hid (fun g (h : PG pv g) => PG.lt s h)
  have hmb : mb < w.heap.size := s.c.lt
  have hwn : IntKind.i64.wrap n = n := by rw [IntKind.wrap_i64]; omega
  have hwk := kN_wrap n
  have hwx := nx_wrap x
  have KL := Lib.hid (kN_lt n)
  have NL := Lib.hid (nx_lt x)
  have hai : (a : Int) ≤ 15 := by omega
  have hbi : (b : Int) ≤ 15 := by omega
  have hai0 : 0 ≤ (a : Int) := by omega
  have hbi0 : 0 ≤ (b : Int) := by omega
  have hai1 : (a : Int) < 16 := by omega
  have hai2 : ¬ (a : Int) < 0 := by omega
  have hbi2 : ¬ (b : Int) < 0 := by omega
  have hbi1 : (b : Int) < 16 := by omega
  have G16 := Lib.hid (hx.gr (i := 16) (by decide))
  have GA := Lib.hid (hx.gr (i := a) (by omega))
  have GB := Lib.hid (hx.gr (i := b) (by omega))
  have HVA := Lib.hid (getD_lt hx a)
  have HVB := Lib.hid (getD_lt hx b)
  have HPC := Lib.hid (getD_lt hx 16)
  have TK := Lib.hid (fun W => taken15 (x.r.getD a 0) (x.r.getD b 0) W)
  rw [ht] at TK
  clear ht
  have hwj := jmp_wrap (x.r.getD 16 0) (kN n)
  generalize jmpN (x.r.getD 16 0) (kN n) = jp at *
  clear hb s
  generalize kN n = kk at *
  generalize nxN x = nx at *
  generalize x.r.getD 16 0 = pc at *
  generalize x.r.getD a 0 = va at *
  generalize x.r.getD b 0 = vb at *
  unfold cpuA opA exitA at *
  go_enter Tryd.func24, Tryd.ntmps24
  go_upto_region 1 with (fail)
  generalize hw1 : ((w.alloc (.cells _ 67)).alloc _).alloc _ = w1 at *
  clear hw1
  have cc0 := D.out.c.cellAt (i := 0) rfl
  have oc0 := D.out.o.cellAt (i := 0) rfl
  have oc1 := D.out.o.cellAt (i := 1) rfl
  have oc2 := D.out.o.cellAt (i := 2) rfl
  have oc4 := D.out.o.cellAt (i := 4) rfl
  have s16 := D.out.s.cellAt G16.out
  have sA := D.out.s.cellAt GA.out
  have sB := D.out.s.cellAt GB.out
  have f16 := D.out.s.unfrozen 16
  have fA := D.out.s.unfrozen a
  go_upto_region 4 with (fail)
  go_quiet (fail)
  have D3 := Lib.hid (D.out.drewN nq)
  clear cc0 oc0 oc1 oc2 oc4 s16 sA sB f16 fA D
  generalize w1.drewN nq = w3 at *
  have cc0 := D3.out.c.cellAt (i := 0) rfl
  have oc0 := D3.out.o.cellAt (i := 0) rfl
  have oc1 := D3.out.o.cellAt (i := 1) rfl
  have s16 := D3.out.s.cellAt G16.out
  have sA := D3.out.s.cellAt GA.out
  have f16 := D3.out.s.unfrozen 16
  have fA := D3.out.s.unfrozen a
  go_upto_region 47 with (go_at_call 38; refine (TK.out _).mono ?_; rintro e w4 ⟨rfl, h4⟩; subst h4)
  have E1 := Lib.hid D3.out.d1
  clear D3
  have OK1 := Lib.hid hx
  have t16 := E1.out.s.cellAt (OK1.out.gr (i := 16) (by decide))
  have tf := E1.out.s.unfrozen 16
  have E2 := Lib.hid (E1.out.reg ap OK1.out (a := 16) (by decide) nx)
  have e0 := E2.out.e.cellAt (i := 0) rfl
  have e1 := E2.out.e.cellAt (i := 1) rfl
  have ef0 := E2.out.e.unfrozen 0
  have ef1 := E2.out.e.unfrozen 1
  have F := Lib.hid (E2.out.fin HPG.out hmb 0 0)
  clear E1 E2
  go_wp2
  refine bodyPost_ret (v := .agg #[.int .u8 0, .int .u64 0]) (results_cell_row Tryd.results24 _ _ (w.heap.size + 1 + 1) _ #[.int .u8 0, .int .u64 0] _ _ rfl F.out.2 Tryd.underlying50 rfl (by simpa using size2x)) rfl F.out.1
set_option maxRecDepth 8000 in
set_option maxHeartbeats 8000000 in
theorem do_br15t {B sb mb : Nat} {pv : Nat → Value} {M : Me} {w : World} (x : Se) (hx : x.Ok) (hb : Blk w sb x.cells 26) (s : Mm B mb pv M w) (ap : Apt sb mb pv) (time me : Int) (a b d : Nat) (n : Int) (ha : a < 16) (hb16 : b < 16) (hn : -32768 ≤ n ∧ n ≤ 32767) (ht : takenB 15 (x.r.getD a 0) (x.r.getD b 0) = true) :
    Calls Tryd.prog 24 #[.agg (cpuA sb mb time me), .agg (opA 15 a b d n)] w (DoP B sb mb pv ⟨x.reg 16 (jmpN (x.r.getD 16 0) (kN n)), M, 0, 0⟩ w) := by
  have D := Lib.hid (D0.new time me (opA 15 a b d n) hb s)
  have HPG := Lib.hid (fun g (h : PG pv g) => PG.lt s h)
  have hmb : mb < w.heap.size := s.c.lt
  have hwn : IntKind.i64.wrap n = n := by rw [IntKind.wrap_i64]; omega
  have hwk := kN_wrap n
  have hwx := nx_wrap x
  have KL := Lib.hid (kN_lt n)
  have NL := Lib.hid (nx_lt x)
  have hai : (a : Int) ≤ 15 := by omega
  have hbi : (b : Int) ≤ 15 := by omega
  have hai0 : 0 ≤ (a : Int) := by omega
  have hbi0 : 0 ≤ (b : Int) := by omega
  have hai1 : (a : Int) < 16 := by omega
  have hai2 : ¬ (a : Int) < 0 := by omega
  have hbi2 : ¬ (b : Int) < 0 := by omega
  have hbi1 : (b : Int) < 16 := by omega
  have G16 := Lib.hid (hx.gr (i := 16) (by decide))
  have GA := Lib.hid (hx.gr (i := a) (by omega))
  have GB := Lib.hid (hx.gr (i := b) (by omega))
  have HVA := Lib.hid (getD_lt hx a)
  have HVB := Lib.hid (getD_lt hx b)
  have HPC := Lib.hid (getD_lt hx 16)
  have TK := Lib.hid (fun W => taken15 (x.r.getD a 0) (x.r.getD b 0) W)
  rw [ht] at TK
  clear ht
  have hwj := jmp_wrap (x.r.getD 16 0) (kN n)
  generalize jmpN (x.r.getD 16 0) (kN n) = jp at *
  clear hb s
  generalize kN n = kk at *
  generalize nxN x = nx at *
  generalize x.r.getD 16 0 = pc at *
  generalize x.r.getD a 0 = va at *
  generalize x.r.getD b 0 = vb at *
  unfold cpuA opA exitA at *
  go_enter Tryd.func24, Tryd.ntmps24
  go_upto_region 1 with (fail)
  generalize hw1 : ((w.alloc (.cells _ 67)).alloc _).alloc _ = w1 at *
  clear hw1
  have cc0 := D.out.c.cellAt (i := 0) rfl
  have oc0 := D.out.o.cellAt (i := 0) rfl
  have oc1 := D.out.o.cellAt (i := 1) rfl
  have oc2 := D.out.o.cellAt (i := 2) rfl
  have oc4 := D.out.o.cellAt (i := 4) rfl
  have s16 := D.out.s.cellAt G16.out
  have sA := D.out.s.cellAt GA.out
  have sB := D.out.s.cellAt GB.out
  have f16 := D.out.s.unfrozen 16
  have fA := D.out.s.unfrozen a
  go_upto_region 4 with (fail)
  go_quiet (fail)
  have D3 := Lib.hid (D.out.drewN nq)
  clear cc0 oc0 oc1 oc2 oc4 s16 sA sB f16 fA D
  generalize w1.drewN nq = w3 at *
  have cc0 := D3.out.c.cellAt (i := 0) rfl
  have oc0 := D3.out.o.cellAt (i := 0) rfl
  have oc1 := D3.out.o.cellAt (i := 1) rfl
  have s16 := D3.out.s.cellAt G16.out
  have sA := D3.out.s.cellAt GA.out
  have f16 := D3.out.s.unfrozen 16
  have fA := D3.out.s.unfrozen a
  go_upto_region 47 with (go_at_call 38; refine (TK.out _).mono ?_; rintro e w4 ⟨rfl, h4⟩; subst h4)
  have E1 := Lib.hid D3.out.d1
  clear D3
  have OK1 := Lib.hid hx
  have t16 := E1.out.s.cellAt (OK1.out.gr (i := 16) (by decide))
  have tf := E1.out.s.unfrozen 16
  have E2 := Lib.hid (E1.out.reg ap OK1.out (a := 16) (by decide) jp)
  have e0 := E2.out.e.cellAt (i := 0) rfl
  have e1 := E2.out.e.cellAt (i := 1) rfl
  have ef0 := E2.out.e.unfrozen 0
  have ef1 := E2.out.e.unfrozen 1
  have F := Lib.hid (E2.out.fin HPG.out hmb 0 0)
  clear E1 E2
  go_wp2
  refine bodyPost_ret (v := .agg #[.int .u8 0, .int .u64 0]) (results_cell_row Tryd.results24 _ _ (w.heap.size + 1 + 1) _ #[.int .u8 0, .int .u64 0] _ _ rfl F.out.2 Tryd.underlying50 rfl (by simpa using size2x)) rfl F.out.1
set_option maxRecDepth 8000 in
set_option maxHeartbeats 8000000 in
theorem do_br16f {B sb mb : Nat} {pv : Nat → Value} {M : Me} {w : World} (x : Se) (hx : x.Ok) (hb : Blk w sb x.cells 26) (s : Mm B mb pv M w) (ap : Apt sb mb pv) (time me : Int) (a b d : Nat) (n : Int) (ha : a < 16) (hb16 : b < 16) (hn : -32768 ≤ n ∧ n ≤ 32767) (ht : takenB 16 (x.r.getD a 0) (x.r.getD b 0) = false) :
    Calls Tryd.prog 24 #[.agg (cpuA sb mb time me), .agg (opA 16 a b d n)] w (DoP B sb mb pv ⟨x.reg 16 (nxN x), M, 0, 0⟩ w) := by
  have D := Lib.hid (D0.new time me (opA 16 a b d n) hb s)
  have HPG := Lib.hid (fun g (h : PG pv g) => PG.lt s h)
  have hmb : mb < w.heap.size := s.c.lt
  have hwn : IntKind.i64.wrap n = n := by rw [IntKind.wrap_i64]; omega
  have hwk := kN_wrap n
  have hwx := nx_wrap x
  have KL := Lib.hid (kN_lt n)
  have NL := Lib.hid (nx_lt x)
  have hai : (a : Int) ≤ 15 := by omega
  have hbi : (b : Int) ≤ 15 := by omega
  have hai0 : 0 ≤ (a : Int) := by omega
  have hbi0 : 0 ≤ (b : Int) := by omega
  have hai1 : (a : Int) < 16 := by omega
  have hai2 : ¬ (a : Int) < 0 := by omega
  have hbi2 : ¬ (b : Int) < 0 := by omega
  have hbi1 : (b : Int) < 16 := by omega
  have G16 := Lib.hid (hx.gr (i := 16) (by decide))
  have GA := Lib.hid (hx.gr (i := a) (by omega))
  have GB := Lib.hid (hx.gr (i := b) (by omega))
  have HVA := Lib.hid (getD_lt hx a)
  have HVB := Lib.hid (getD_lt hx b)
  have HPC := Lib.hid (getD_lt hx 16)
  have TK := Lib.hid (fun W => taken16 (x.r.getD a 0) (x.r.getD b 0) W)
  rw [ht] at TK
  clear ht
  have hwj := jmp_wrap (x.r.getD 16 0) (kN n)
  generalize jmpN (x.r.getD 16 0) (kN n) = jp at *
  clear hb s
  generalize kN n = kk at *
  generalize nxN x = nx at *
  generalize x.r.getD 16 0 = pc at *
  generalize x.r.getD a 0 = va at *
  generalize x.r.getD b 0 = vb at *
  unfold cpuA opA exitA at *
  go_enter Tryd.func24, Tryd.ntmps24
  go_upto_region 1 with (fail)
  generalize hw1 : ((w.alloc (.cells _ 67)).alloc _).alloc _ = w1 at *
  clear hw1
  have cc0 := D.out.c.cellAt (i := 0) rfl
  have oc0 := D.out.o.cellAt (i := 0) rfl
  have oc1 := D.out.o.cellAt (i := 1) rfl
  have oc2 := D.out.o.cellAt (i := 2) rfl
  have oc4 := D.out.o.cellAt (i := 4) rfl
  have s16 := D.out.s.cellAt G16.out
  have sA := D.out.s.cellAt GA.out
  have sB := D.out.s.cellAt GB.out
  have f16 := D.out.s.unfrozen 16
  have fA := D.out.s.unfrozen a
  go_upto_region 4 with (fail)
  go_quiet (fail)
  have D3 := Lib.hid (D.out.drewN nq)
  clear cc0 oc0 oc1 oc2 oc4 s16 sA sB f16 fA D
  generalize w1.drewN nq = w3 at *
  have cc0 := D3.out.c.cellAt (i := 0) rfl
  have oc0 := D3.out.o.cellAt (i := 0) rfl
  have oc1 := D3.out.o.cellAt (i := 1) rfl
  have s16 := D3.out.s.cellAt G16.out
  have sA := D3.out.s.cellAt GA.out
  have f16 := D3.out.s.unfrozen 16
  have fA := D3.out.s.unfrozen a
  go_upto_region 47 with (go_at_call 38; refine (TK.out _).mono ?_; rintro e w4 ⟨rfl, h4⟩; subst h4)
  have E1 := Lib.hid D3.out.d1
  clear D3
  have OK1 := Lib.hid hx
  have t16 := E1.out.s.cellAt (OK1.out.gr (i := 16) (by decide))
  have tf := E1.out.s.unfrozen 16
  have E2 := Lib.hid (E1.out.reg ap OK1.out (a := 16) (by decide) nx)
  have e0 := E2.out.e.cellAt (i := 0) rfl
  have e1 := E2.out.e.cellAt (i := 1) rfl
  have ef0 := E2.out.e.unfrozen 0
  have ef1 := E2.out.e.unfrozen 1
  have F := Lib.hid (E2.out.fin HPG.out hmb 0 0)
  clear E1 E2
  go_wp2
  refine bodyPost_ret (v := .agg #[.int .u8 0, .int .u64 0]) (results_cell_row Tryd.results24 _ _ (w.heap.size + 1 + 1) _ #[.int .u8 0, .int .u64 0] _ _ rfl F.out.2 Tryd.underlying50 rfl (by simpa using size2x)) rfl F.out.1
set_option maxRecDepth 8000 in
set_option maxHeartbeats 8000000 in
theorem do_br16t {B sb mb : Nat} {pv : Nat → Value} {M : Me} {w : World} (x : Se) (hx : x.Ok) (hb : Blk w sb x.cells 26) (s : Mm B mb pv M w) (ap : Apt sb mb pv) (time me : Int) (a b d : Nat) (n : Int) (ha : a < 16) (hb16 : b < 16) (hn : -32768 ≤ n ∧ n ≤ 32767) (ht : takenB 16 (x.r.getD a 0) (x.r.getD b 0) = true) :
    Calls Tryd.prog 24 #[.agg (cpuA sb mb time me), .agg (opA 16 a b d n)] w (DoP B sb mb pv ⟨x.reg 16 (jmpN (x.r.getD 16 0) (kN n)), M, 0, 0⟩ w) := by
  have D := Lib.hid (D0.new time me (opA 16 a b d n) hb s)
  have HPG := Lib.hid (fun g (h : PG pv g) => PG.lt s h)
  have hmb : mb < w.heap.size := s.c.lt
  have hwn : IntKind.i64.wrap n = n := by rw [IntKind.wrap_i64]; omega
  have hwk := kN_wrap n
  have hwx := nx_wrap x
  have KL := Lib.hid (kN_lt n)
  have NL := Lib.hid (nx_lt x)
  have hai : (a : Int) ≤ 15 := by omega
  have hbi : (b : Int) ≤ 15 := by omega
  have hai0 : 0 ≤ (a : Int) := by omega
  have hbi0 : 0 ≤ (b : Int) := by omega
  have hai1 : (a : Int) < 16 := by omega
  have hai2 : ¬ (a : Int) < 0 := by omega
  have hbi2 : ¬ (b : Int) < 0 := by omega
  have hbi1 : (b : Int) < 16 := by omega
  have G16 := Lib.hid (hx.gr (i := 16) (by decide))
  have GA := Lib.hid (hx.gr (i := a) (by omega))
  have GB := Lib.hid (hx.gr (i := b) (by omega))
  have HVA := Lib.hid (getD_lt hx a)
  have HVB := Lib.hid (getD_lt hx b)
  have HPC := Lib.hid (getD_lt hx 16)
  have TK := Lib.hid (fun W => taken16 (x.r.getD a 0) (x.r.getD b 0) W)
  rw [ht] at TK
  clear ht
  have hwj := jmp_wrap (x.r.getD 16 0) (kN n)
  generalize jmpN (x.r.getD 16 0) (kN n) = jp at *
  clear hb s
  generalize kN n = kk at *
  generalize nxN x = nx at *
  generalize x.r.getD 16 0 = pc at *
  generalize x.r.getD a 0 = va at *
  generalize x.r.getD b 0 = vb at *
  unfold cpuA opA exitA at *
  go_enter Tryd.func24, Tryd.ntmps24
  go_upto_region 1 with (fail)
  generalize hw1 : ((w.alloc (.cells _ 67)).alloc _).alloc _ = w1 at *
  clear hw1
  have cc0 := D.out.c.cellAt (i := 0) rfl
  have oc0 := D.out.o.cellAt (i := 0) rfl
  have oc1 := D.out.o.cellAt (i := 1) rfl
  have oc2 := D.out.o.cellAt (i := 2) rfl
  have oc4 := D.out.o.cellAt (i := 4) rfl
  have s16 := D.out.s.cellAt G16.out
  have sA := D.out.s.cellAt GA.out
  have sB := D.out.s.cellAt GB.out
  have f16 := D.out.s.unfrozen 16
  have fA := D.out.s.unfrozen a
  go_upto_region 4 with (fail)
  go_quiet (fail)
  have D3 := Lib.hid (D.out.drewN nq)
  clear cc0 oc0 oc1 oc2 oc4 s16 sA sB f16 fA D
  generalize w1.drewN nq = w3 at *
  have cc0 := D3.out.c.cellAt (i := 0) rfl
  have oc0 := D3.out.o.cellAt (i := 0) rfl
  have oc1 := D3.out.o.cellAt (i := 1) rfl
  have s16 := D3.out.s.cellAt G16.out
  have sA := D3.out.s.cellAt GA.out
  have f16 := D3.out.s.unfrozen 16
  have fA := D3.out.s.unfrozen a
  go_upto_region 47 with (go_at_call 38; refine (TK.out _).mono ?_; rintro e w4 ⟨rfl, h4⟩; subst h4)
  have E1 := Lib.hid D3.out.d1
  clear D3
  have OK1 := Lib.hid hx
  have t16 := E1.out.s.cellAt (OK1.out.gr (i := 16) (by decide))
  have tf := E1.out.s.unfrozen 16
  have E2 := Lib.hid (E1.out.reg ap OK1.out (a := 16) (by decide) jp)
  have e0 := E2.out.e.cellAt (i := 0) rfl
  have e1 := E2.out.e.cellAt (i := 1) rfl
  have ef0 := E2.out.e.unfrozen 0
  have ef1 := E2.out.e.unfrozen 1
  have F := Lib.hid (E2.out.fin HPG.out hmb 0 0)
  clear E1 E2
  go_wp2
  refine bodyPost_ret (v := .agg #[.int .u8 0, .int .u64 0]) (results_cell_row Tryd.results24 _ _ (w.heap.size + 1 + 1) _ #[.int .u8 0, .int .u64 0] _ _ rfl F.out.2 Tryd.underlying50 rfl (by simpa using size2x)) rfl F.out.1
set_option maxRecDepth 8000 in
set_option maxHeartbeats 8000000 in
theorem do_jal {B sb mb : Nat} {pv : Nat → Value} {M : Me} {w : World} (x : Se) (hx : x.Ok) (hb : Blk w sb x.cells 26) (s : Mm B mb pv M w) (ap : Apt sb mb pv) (time me : Int) (a b d : Nat) (n : Int) (ha : a < 16) (hb16 : b < 16) (hn : -32768 ≤ n ∧ n ≤ 32767) :
    Calls Tryd.prog 24 #[.agg (cpuA sb mb time me), .agg (opA 17 a b d n)] w (DoP B sb mb pv ⟨(x.reg a (nxN x)).reg 16 (addN (x.r.getD b 0) (kN n)), M, 0, 0⟩ w) := by
  have D := Lib.hid (D0.new time me (opA 17 a b d n) hb s)
  have HPG := Lib.hid (fun g (h : PG pv g) => PG.lt s h)
  have hmb : mb < w.heap.size := s.c.lt
  have hwn : IntKind.i64.wrap n = n := by rw [IntKind.wrap_i64]; omega
  have hwk := kN_wrap n
  have hwx := nx_wrap x
  have KL := Lib.hid (kN_lt n)
  have NL := Lib.hid (nx_lt x)
  have hai : (a : Int) ≤ 15 := by omega
  have hbi : (b : Int) ≤ 15 := by omega
  have hai0 : 0 ≤ (a : Int) := by omega
  have hbi0 : 0 ≤ (b : Int) := by omega
  have hai1 : (a : Int) < 16 := by omega
  have hai2 : ¬ (a : Int) < 0 := by omega
  have hbi2 : ¬ (b : Int) < 0 := by omega
  have hbi1 : (b : Int) < 16 := by omega
  have G16 := Lib.hid (hx.gr (i := 16) (by decide))
  have GA := Lib.hid (hx.gr (i := a) (by omega))
  have GB := Lib.hid (hx.gr (i := b) (by omega))
  have HVA := Lib.hid (getD_lt hx a)
  have HVB := Lib.hid (getD_lt hx b)
  have HPC := Lib.hid (getD_lt hx 16)
  have hwa := add_wrap (x.r.getD b 0) (kN n)
  have AL := Lib.hid (addN_lt (x.r.getD b 0) (kN n))
  generalize addN (x.r.getD b 0) (kN n) = ad at *
  clear hb s
  generalize kN n = kk at *
  generalize nxN x = nx at *
  generalize x.r.getD 16 0 = pc at *
  generalize x.r.getD a 0 = va at *
  generalize x.r.getD b 0 = vb at *
  unfold cpuA opA exitA at *
  go_enter Tryd.func24, Tryd.ntmps24
  go_upto_region 1 with (fail)
  generalize hw1 : ((w.alloc (.cells _ 67)).alloc _).alloc _ = w1 at *
  clear hw1
  have cc0 := D.out.c.cellAt (i := 0) rfl
  have oc0 := D.out.o.cellAt (i := 0) rfl
  have oc1 := D.out.o.cellAt (i := 1) rfl
  have oc2 := D.out.o.cellAt (i := 2) rfl
  have oc4 := D.out.o.cellAt (i := 4) rfl
  have s16 := D.out.s.cellAt G16.out
  have sA := D.out.s.cellAt GA.out
  have sB := D.out.s.cellAt GB.out
  have f16 := D.out.s.unfrozen 16
  have fA := D.out.s.unfrozen a
  go_upto_region 4 with (fail)
  go_quiet (fail)
  have D3 := Lib.hid (D.out.drewN nq)
  clear cc0 oc0 oc1 oc2 oc4 s16 sA sB f16 fA D
  generalize w1.drewN nq = w3 at *
  have cc0 := D3.out.c.cellAt (i := 0) rfl
  have oc0 := D3.out.o.cellAt (i := 0) rfl
  have oc1 := D3.out.o.cellAt (i := 1) rfl
  have s16 := D3.out.s.cellAt G16.out
  have sA := D3.out.s.cellAt GA.out
  have f16 := D3.out.s.unfrozen 16
  have fA := D3.out.s.unfrozen a
  go_upto_region 28 with (fail)
  have E1 : Hid (D1 B sb mb pv (x.reg a nx) M w ((w3.setCell ⟨sb, a, none⟩ (.int .u64 (nx : Int))).drew)) := (D3.out.d1.reg ap hx (a := a) (by omega) nx).drewN 1
  clear D3
  go_region
  go_upto_region 47 with (fail)
  generalize World.drew _ = w4 at *
  have OK1 := Lib.hid (hx.reg (a := a) NL.out)
  have t16 := E1.out.s.cellAt (OK1.out.gr (i := 16) (by decide))
  have tf := E1.out.s.unfrozen 16
  have E2 := Lib.hid (E1.out.reg ap OK1.out (a := 16) (by decide) ad)
  have e0 := E2.out.e.cellAt (i := 0) rfl
  have e1 := E2.out.e.cellAt (i := 1) rfl
  have ef0 := E2.out.e.unfrozen 0
  have ef1 := E2.out.e.unfrozen 1
  have F := Lib.hid (E2.out.fin HPG.out hmb 0 0)
  clear E1 E2
  go_wp2
  refine bodyPost_ret (v := .agg #[.int .u8 0, .int .u64 0]) (results_cell_row Tryd.results24 _ _ (w.heap.size + 1 + 1) _ #[.int .u8 0, .int .u64 0] _ _ rfl F.out.2 Tryd.underlying50 rfl (by simpa using size2x)) rfl F.out.1
set_option maxRecDepth 8000 in
set_option maxHeartbeats 8000000 in
theorem do_hvc {B sb mb : Nat} {pv : Nat → Value} {M : Me} {w : World} (x : Se) (hx : x.Ok) (hb : Blk w sb x.cells 26) (s : Mm B mb pv M w) (ap : Apt sb mb pv) (time me : Int) (a b d : Nat) (n : Int) (ha : a < 16) (hb16 : b < 16) (hn : -32768 ≤ n ∧ n ≤ 32767) :
    Calls Tryd.prog 24 #[.agg (cpuA sb mb time me), .agg (opA 20 a b d n)] w (DoP B sb mb pv ⟨x.reg 16 (nxN x), M, 2, kN n⟩ w) := by
  have D := Lib.hid (D0.new time me (opA 20 a b d n) hb s)
  have HPG := Lib.hid (fun g (h : PG pv g) => PG.lt s h)
  have hmb : mb < w.heap.size := s.c.lt
  have hwn : IntKind.i64.wrap n = n := by rw [IntKind.wrap_i64]; omega
  have hwk := kN_wrap n
  have hwx := nx_wrap x
  have KL := Lib.hid (kN_lt n)
  have NL := Lib.hid (nx_lt x)
  have hai : (a : Int) ≤ 15 := by omega
  have hbi : (b : Int) ≤ 15 := by omega
  have hai0 : 0 ≤ (a : Int) := by omega
  have hbi0 : 0 ≤ (b : Int) := by omega
  have hai1 : (a : Int) < 16 := by omega
  have hai2 : ¬ (a : Int) < 0 := by omega
  have hbi2 : ¬ (b : Int) < 0 := by omega
  have hbi1 : (b : Int) < 16 := by omega
  have G16 := Lib.hid (hx.gr (i := 16) (by decide))
  have GA := Lib.hid (hx.gr (i := a) (by omega))
  have GB := Lib.hid (hx.gr (i := b) (by omega))
  have HVA := Lib.hid (getD_lt hx a)
  have HVB := Lib.hid (getD_lt hx b)
  have HPC := Lib.hid (getD_lt hx 16)
  clear hb s
  generalize kN n = kk at *
  generalize nxN x = nx at *
  generalize x.r.getD 16 0 = pc at *
  generalize x.r.getD a 0 = va at *
  generalize x.r.getD b 0 = vb at *
  unfold cpuA opA exitA at *
  go_enter Tryd.func24, Tryd.ntmps24
  go_upto_region 1 with (fail)
  generalize hw1 : ((w.alloc (.cells _ 67)).alloc _).alloc _ = w1 at *
  clear hw1
  have cc0 := D.out.c.cellAt (i := 0) rfl
  have oc0 := D.out.o.cellAt (i := 0) rfl
  have oc1 := D.out.o.cellAt (i := 1) rfl
  have oc2 := D.out.o.cellAt (i := 2) rfl
  have oc4 := D.out.o.cellAt (i := 4) rfl
  have s16 := D.out.s.cellAt G16.out
  have sA := D.out.s.cellAt GA.out
  have sB := D.out.s.cellAt GB.out
  have f16 := D.out.s.unfrozen 16
  have fA := D.out.s.unfrozen a
  go_upto_region 4 with (fail)
  go_quiet (fail)
  have D3 := Lib.hid (D.out.drewN nq)
  clear cc0 oc0 oc1 oc2 oc4 s16 sA sB f16 fA D
  generalize w1.drewN nq = w3 at *
  have cc0 := D3.out.c.cellAt (i := 0) rfl
  have oc0 := D3.out.o.cellAt (i := 0) rfl
  have oc1 := D3.out.o.cellAt (i := 1) rfl
  have s16 := D3.out.s.cellAt G16.out
  have sA := D3.out.s.cellAt GA.out
  have f16 := D3.out.s.unfrozen 16
  have fA := D3.out.s.unfrozen a
  go_upto_region 36 with (fail)
  have E2 := Lib.hid (D3.out.d1.reg ap hx (a := 16) (by decide) nx)
  clear D3
  go_upto_region 37 with (fail)
  generalize World.setCell _ _ _ = w4 at *
  have e0 := E2.out.e.cellAt (i := 0) rfl
  have e1 := E2.out.e.cellAt (i := 1) rfl
  have ef0 := E2.out.e.unfrozen 0
  have ef1 := E2.out.e.unfrozen 1
  have F := Lib.hid (E2.out.fin HPG.out hmb 2 kk)
  clear E2
  go_wp2
  refine bodyPost_ret (v := .agg #[.int .u8 2, .int .u64 (kk : Int)]) (results_cell_row Tryd.results24 _ _ (w.heap.size + 1 + 1) _ #[.int .u8 2, .int .u64 (kk : Int)] _ _ rfl F.out.2 Tryd.underlying50 rfl (by simpa using size2x)) rfl F.out.1
set_option maxRecDepth 8000 in
set_option maxHeartbeats 8000000 in
theorem do_wfia {B sb mb : Nat} {pv : Nat → Value} {M : Me} {w : World} (x : Se) (hx : x.Ok) (hb : Blk w sb x.cells 26) (s : Mm B mb pv M w) (ap : Apt sb mb pv) (time me : Int) (a b d : Nat) (n : Int) (ha : a < 16) (hb16 : b < 16) (hn : -32768 ≤ n ∧ n ≤ 32767) (hz : x.pe &&& x.ma = 0) :
    Calls Tryd.prog 24 #[.agg (cpuA sb mb time me), .agg (opA 21 a b d n)] w (DoP B sb mb pv ⟨{ x.reg 16 (nxN x) with st := 1 }, M, 3, 0⟩ w) := by
  have D := Lib.hid (D0.new time me (opA 21 a b d n) hb s)
  have HPG := Lib.hid (fun g (h : PG pv g) => PG.lt s h)
  have hmb : mb < w.heap.size := s.c.lt
  have hwn : IntKind.i64.wrap n = n := by rw [IntKind.wrap_i64]; omega
  have hwk := kN_wrap n
  have hwx := nx_wrap x
  have KL := Lib.hid (kN_lt n)
  have NL := Lib.hid (nx_lt x)
  have hai : (a : Int) ≤ 15 := by omega
  have hbi : (b : Int) ≤ 15 := by omega
  have hai0 : 0 ≤ (a : Int) := by omega
  have hbi0 : 0 ≤ (b : Int) := by omega
  have hai1 : (a : Int) < 16 := by omega
  have hai2 : ¬ (a : Int) < 0 := by omega
  have hbi2 : ¬ (b : Int) < 0 := by omega
  have hbi1 : (b : Int) < 16 := by omega
  have G16 := Lib.hid (hx.gr (i := 16) (by decide))
  have GA := Lib.hid (hx.gr (i := a) (by omega))
  have GB := Lib.hid (hx.gr (i := b) (by omega))
  have HVA := Lib.hid (getD_lt hx a)
  have HVB := Lib.hid (getD_lt hx b)
  have HPC := Lib.hid (getD_lt hx 16)
  have HAND := Lib.hid (show bits .and .u32 (x.pe : Int) (x.ma : Int) = ((x.pe &&& x.ma : Nat) : Int) from bits_and rfl hx.p hx.m)
  have OKX := Lib.hid (hx.reg (a := 16) (nx_lt x))
  clear hb s
  generalize kN n = kk at *
  generalize nxN x = nx at *
  generalize x.r.getD 16 0 = pc at *
  generalize x.r.getD a 0 = va at *
  generalize x.r.getD b 0 = vb at *
  unfold cpuA opA exitA at *
  go_enter Tryd.func24, Tryd.ntmps24
  go_upto_region 1 with (fail)
  generalize hw1 : ((w.alloc (.cells _ 67)).alloc _).alloc _ = w1 at *
  clear hw1
  have cc0 := D.out.c.cellAt (i := 0) rfl
  have oc0 := D.out.o.cellAt (i := 0) rfl
  have oc1 := D.out.o.cellAt (i := 1) rfl
  have oc2 := D.out.o.cellAt (i := 2) rfl
  have oc4 := D.out.o.cellAt (i := 4) rfl
  have s16 := D.out.s.cellAt G16.out
  have sA := D.out.s.cellAt GA.out
  have sB := D.out.s.cellAt GB.out
  have f16 := D.out.s.unfrozen 16
  have fA := D.out.s.unfrozen a
  go_upto_region 4 with (fail)
  go_quiet (fail)
  have D3 := Lib.hid (D.out.drewN nq)
  clear cc0 oc0 oc1 oc2 oc4 s16 sA sB f16 fA D
  generalize w1.drewN nq = w3 at *
  have cc0 := D3.out.c.cellAt (i := 0) rfl
  have oc0 := D3.out.o.cellAt (i := 0) rfl
  have oc1 := D3.out.o.cellAt (i := 1) rfl
  have s16 := D3.out.s.cellAt G16.out
  have sA := D3.out.s.cellAt GA.out
  have f16 := D3.out.s.unfrozen 16
  have fA := D3.out.s.unfrozen a
  go_upto_region 39 with (fail)
  have E2 := Lib.hid (D3.out.d1.reg ap hx (a := 16) (by decide) nx)
  clear D3
  go_upto_region 40 with (fail)
  generalize World.setCell _ _ _ = w4 at *
  have t24 := E2.out.s.cellAt OKX.out.g24
  have t25 := E2.out.s.cellAt OKX.out.g25
  rw [show (x.reg 16 nx).pe = x.pe from rfl] at t24
  rw [show (x.reg 16 nx).ma = x.ma from rfl] at t25
  have hand := HAND.out
  rw [hz] at hand
  have hand2 : bits .and .u32 (x.pe : Int) (x.ma : Int) = 0 := hand
  clear hand
  generalize (x.pe : Int) = pe at *
  generalize (x.ma : Int) = ma at *
  go_quiet (fail)
  have E3 := Lib.hid ((E2.out.drewN nq).set (x' := { x.reg 16 nx with st := 1 }) ap 23 (.int .u8 1) (OKX.out.s23 1))
  have t23 := (E2.out.drewN nq).s.cellAt OKX.out.g23
  have tf23 := (E2.out.drewN nq).s.unfrozen 23
  clear E2
  go_upto_region 42 with (fail)
  generalize World.setCell _ _ _ = w5 at *
  have E2 := E3
  have e0 := E2.out.e.cellAt (i := 0) rfl
  have e1 := E2.out.e.cellAt (i := 1) rfl
  have ef0 := E2.out.e.unfrozen 0
  have ef1 := E2.out.e.unfrozen 1
  have F := Lib.hid (E2.out.fin HPG.out hmb 3 0)
  clear E2 E3
  go_wp2
  refine bodyPost_ret (v := .agg #[.int .u8 3, .int .u64 0]) (results_cell_row Tryd.results24 _ _ (w.heap.size + 1 + 1) _ #[.int .u8 3, .int .u64 0] _ _ rfl F.out.2 Tryd.underlying50 rfl (by simpa using size2x)) rfl F.out.1
set_option maxRecDepth 8000 in
set_option maxHeartbeats 8000000 in
theorem do_wfib {B sb mb : Nat} {pv : Nat → Value} {M : Me} {w : World} (x : Se) (hx : x.Ok) (hb : Blk w sb x.cells 26) (s : Mm B mb pv M w) (ap : Apt sb mb pv) (time me : Int) (a b d : Nat) (n : Int) (ha : a < 16) (hb16 : b < 16) (hn : -32768 ≤ n ∧ n ≤ 32767) (hz : x.pe &&& x.ma ≠ 0) :
    Calls Tryd.prog 24 #[.agg (cpuA sb mb time me), .agg (opA 21 a b d n)] w (DoP B sb mb pv ⟨x.reg 16 (nxN x), M, 0, 0⟩ w) := by
  have D := Lib.hid (D0.new time me (opA 21 a b d n) hb s)
  have HPG := Lib.hid (fun g (h : PG pv g) => PG.lt s h)
  have hmb : mb < w.heap.size := s.c.lt
  have hwn : IntKind.i64.wrap n = n := by rw [IntKind.wrap_i64]; omega
  have hwk := kN_wrap n
  have hwx := nx_wrap x
  have KL := Lib.hid (kN_lt n)
  have NL := Lib.hid (nx_lt x)
  have hai : (a : Int) ≤ 15 := by omega
  have hbi : (b : Int) ≤ 15 := by omega
  have hai0 : 0 ≤ (a : Int) := by omega
  have hbi0 : 0 ≤ (b : Int) := by omega
  have hai1 : (a : Int) < 16 := by omega
  have hai2 : ¬ (a : Int) < 0 := by omega
  have hbi2 : ¬ (b : Int) < 0 := by omega
  have hbi1 : (b : Int) < 16 := by omega
  have G16 := Lib.hid (hx.gr (i := 16) (by decide))
  have GA := Lib.hid (hx.gr (i := a) (by omega))
  have GB := Lib.hid (hx.gr (i := b) (by omega))
  have HVA := Lib.hid (getD_lt hx a)
  have HVB := Lib.hid (getD_lt hx b)
  have HPC := Lib.hid (getD_lt hx 16)
  have HAND := Lib.hid (show bits .and .u32 (x.pe : Int) (x.ma : Int) = ((x.pe &&& x.ma : Nat) : Int) from bits_and rfl hx.p hx.m)
  have OKX := Lib.hid (hx.reg (a := 16) (nx_lt x))
  clear hb s
  generalize kN n = kk at *
  generalize nxN x = nx at *
  generalize x.r.getD 16 0 = pc at *
  generalize x.r.getD a 0 = va at *
  generalize x.r.getD b 0 = vb at *
  unfold cpuA opA exitA at *
  go_enter Tryd.func24, Tryd.ntmps24
  go_upto_region 1 with (fail)
  generalize hw1 : ((w.alloc (.cells _ 67)).alloc _).alloc _ = w1 at *
  clear hw1
  have cc0 := D.out.c.cellAt (i := 0) rfl
  have oc0 := D.out.o.cellAt (i := 0) rfl
  have oc1 := D.out.o.cellAt (i := 1) rfl
  have oc2 := D.out.o.cellAt (i := 2) rfl
  have oc4 := D.out.o.cellAt (i := 4) rfl
  have s16 := D.out.s.cellAt G16.out
  have sA := D.out.s.cellAt GA.out
  have sB := D.out.s.cellAt GB.out
  have f16 := D.out.s.unfrozen 16
  have fA := D.out.s.unfrozen a
  go_upto_region 4 with (fail)
  go_quiet (fail)
  have D3 := Lib.hid (D.out.drewN nq)
  clear cc0 oc0 oc1 oc2 oc4 s16 sA sB f16 fA D
  generalize w1.drewN nq = w3 at *
  have cc0 := D3.out.c.cellAt (i := 0) rfl
  have oc0 := D3.out.o.cellAt (i := 0) rfl
  have oc1 := D3.out.o.cellAt (i := 1) rfl
  have s16 := D3.out.s.cellAt G16.out
  have sA := D3.out.s.cellAt GA.out
  have f16 := D3.out.s.unfrozen 16
  have fA := D3.out.s.unfrozen a
  go_upto_region 39 with (fail)
  have E2 := Lib.hid (D3.out.d1.reg ap hx (a := 16) (by decide) nx)
  clear D3
  go_upto_region 40 with (fail)
  generalize World.setCell _ _ _ = w4 at *
  have t24 := E2.out.s.cellAt OKX.out.g24
  have t25 := E2.out.s.cellAt OKX.out.g25
  rw [show (x.reg 16 nx).pe = x.pe from rfl] at t24
  rw [show (x.reg 16 nx).ma = x.ma from rfl] at t25
  have hand := HAND.out
  have hand2 : (bits .and .u32 (x.pe : Int) (x.ma : Int) == 0) = false := by rw [hand]; simp; omega
  clear hand
  generalize (x.pe : Int) = pe at *
  generalize (x.ma : Int) = ma at *
  go_quiet (fail)
  have E3 := Lib.hid (E2.out.drewN nq)
  clear E2
  have E2 := E3
  have e0 := E2.out.e.cellAt (i := 0) rfl
  have e1 := E2.out.e.cellAt (i := 1) rfl
  have ef0 := E2.out.e.unfrozen 0
  have ef1 := E2.out.e.unfrozen 1
  have F := Lib.hid (E2.out.fin HPG.out hmb 0 0)
  clear E2 E3
  go_wp2
  refine bodyPost_ret (v := .agg #[.int .u8 0, .int .u64 0]) (results_cell_row Tryd.results24 _ _ (w.heap.size + 1 + 1) _ #[.int .u8 0, .int .u64 0] _ _ rfl F.out.2 Tryd.underlying50 rfl (by simpa using size2x)) rfl F.out.1
set_option maxRecDepth 8000 in
set_option maxHeartbeats 8000000 in
theorem do_ret {B sb mb : Nat} {pv : Nat → Value} {M : Me} {w : World} (x : Se) (hx : x.Ok) (hb : Blk w sb x.cells 26) (s : Mm B mb pv M w) (ap : Apt sb mb pv) (time me : Int) (a b d : Nat) (n : Int) (ha : a < 16) (hb16 : b < 16) (hn : -32768 ≤ n ∧ n ≤ 32767) :
    Calls Tryd.prog 24 #[.agg (cpuA sb mb time me), .agg (opA 22 a b d n)] w (DoP B sb mb pv ⟨backS x, M, 0, 0⟩ w) := by
  have D := Lib.hid (D0.new time me (opA 22 a b d n) hb s)
  have HPG := Lib.hid (fun g (h : PG pv g) => PG.lt s h)
  have hmb : mb < w.heap.size := s.c.lt
  have hwn : IntKind.i64.wrap n = n := by rw [IntKind.wrap_i64]; omega
  have hwk := kN_wrap n
  have hwx := nx_wrap x
  have KL := Lib.hid (kN_lt n)
  have NL := Lib.hid (nx_lt x)
  have hai : (a : Int) ≤ 15 := by omega
  have hbi : (b : Int) ≤ 15 := by omega
  have hai0 : 0 ≤ (a : Int) := by omega
  have hbi0 : 0 ≤ (b : Int) := by omega
  have hai1 : (a : Int) < 16 := by omega
  have hai2 : ¬ (a : Int) < 0 := by omega
  have hbi2 : ¬ (b : Int) < 0 := by omega
  have hbi1 : (b : Int) < 16 := by omega
  have G16 := Lib.hid (hx.gr (i := 16) (by decide))
  have GA := Lib.hid (hx.gr (i := a) (by omega))
  have GB := Lib.hid (hx.gr (i := b) (by omega))
  have HVA := Lib.hid (getD_lt hx a)
  have HVB := Lib.hid (getD_lt hx b)
  have HPC := Lib.hid (getD_lt hx 16)
  have BC := Lib.hid (fun W (h : Blk W sb x.cells 26) => back_calls x hx sb W h)
  clear hb s
  generalize kN n = kk at *
  generalize nxN x = nx at *
  generalize x.r.getD 16 0 = pc at *
  generalize x.r.getD a 0 = va at *
  generalize x.r.getD b 0 = vb at *
  unfold cpuA opA exitA at *
  go_enter Tryd.func24, Tryd.ntmps24
  go_upto_region 1 with (fail)
  generalize hw1 : ((w.alloc (.cells _ 67)).alloc _).alloc _ = w1 at *
  clear hw1
  have cc0 := D.out.c.cellAt (i := 0) rfl
  have oc0 := D.out.o.cellAt (i := 0) rfl
  have oc1 := D.out.o.cellAt (i := 1) rfl
  have oc2 := D.out.o.cellAt (i := 2) rfl
  have oc4 := D.out.o.cellAt (i := 4) rfl
  have s16 := D.out.s.cellAt G16.out
  have sA := D.out.s.cellAt GA.out
  have sB := D.out.s.cellAt GB.out
  have f16 := D.out.s.unfrozen 16
  have fA := D.out.s.unfrozen a
  go_upto_region 4 with (fail)
  go_quiet (fail)
  have D3 := Lib.hid (D.out.drewN nq)
  clear cc0 oc0 oc1 oc2 oc4 s16 sA sB f16 fA D
  generalize w1.drewN nq = w3 at *
  have cc0 := D3.out.c.cellAt (i := 0) rfl
  have oc0 := D3.out.o.cellAt (i := 0) rfl
  have oc1 := D3.out.o.cellAt (i := 1) rfl
  have s16 := D3.out.s.cellAt G16.out
  have sA := D3.out.s.cellAt GA.out
  have f16 := D3.out.s.unfrozen 16
  have fA := D3.out.s.unfrozen a
  go_upto_region 46 with (go_at_call 42; refine (BC.out _ D3.out.s).mono ?_; rintro e w5 ⟨rfl, u5⟩; have E2 := Lib.hid (D3.out.d1.upd ap u5); clear u5)
  clear D3
  have e0 := E2.out.e.cellAt (i := 0) rfl
  have e1 := E2.out.e.cellAt (i := 1) rfl
  have ef0 := E2.out.e.unfrozen 0
  have ef1 := E2.out.e.unfrozen 1
  have F := Lib.hid (E2.out.fin HPG.out hmb 0 0)
  clear E2
  go_wp2
  refine bodyPost_ret (v := .agg #[.int .u8 0, .int .u64 0]) (results_cell_row Tryd.results24 _ _ (w.heap.size + 1 + 1) _ #[.int .u8 0, .int .u64 0] _ _ rfl F.out.2 Tryd.underlying50 rfl (by simpa using size2x)) rfl F.out.1
set_option maxRecDepth 8000 in
set_option maxHeartbeats 8000000 in
theorem do_sum3 {B sb mb : Nat} {pv : Nat → Value} {M : Me} {w : World} (x : Se) (hx : x.Ok) (hb : Blk w sb x.cells 26) (s : Mm B mb pv M w) (ap : Apt sb mb pv) (time me : Int) (a b d : Nat) (n : Int) (ha : a < 16) (hb16 : b < 16) (hn : -32768 ≤ n ∧ n ≤ 32767) (hd : d < 16) :
    Calls Tryd.prog 24 #[.agg (cpuA sb mb time me), .agg (opA 3 a b d n)] w (DoP B sb mb pv ⟨(x.reg a (sumN 3 (x.r.getD b 0) (x.r.getD d 0))).reg 16 (nxN x), M, 0, 0⟩ w) := by
  have D := Lib.hid (D0.new time me (opA 3 a b d n) hb s)
  have HPG := Lib.hid (fun g (h : PG pv g) => PG.lt s h)
  have hmb : mb < w.heap.size := s.c.lt
  have hwn : IntKind.i64.wrap n = n := by rw [IntKind.wrap_i64]; omega
  have hwk := kN_wrap n
  have hwx := nx_wrap x
  have KL := Lib.hid (kN_lt n)
  have NL := Lib.hid (nx_lt x)
  have hai : (a : Int) ≤ 15 := by omega
  have hbi : (b : Int) ≤ 15 := by omega
  have hai0 : 0 ≤ (a : Int) := by omega
  have hbi0 : 0 ≤ (b : Int) := by omega
  have hai1 : (a : Int) < 16 := by omega
  have hai2 : ¬ (a : Int) < 0 := by omega
  have hbi2 : ¬ (b : Int) < 0 := by omega
  have hbi1 : (b : Int) < 16 := by omega
  have G16 := Lib.hid (hx.gr (i := 16) (by decide))
  have GA := Lib.hid (hx.gr (i := a) (by omega))
  have GB := Lib.hid (hx.gr (i := b) (by omega))
  have HVA := Lib.hid (getD_lt hx a)
  have HVB := Lib.hid (getD_lt hx b)
  have HPC := Lib.hid (getD_lt hx 16)
  have GD := Lib.hid (hx.gr (i := d) (by omega))
  have hdi : (d : Int) ≤ 15 := by omega
  have hdi0 : 0 ≤ (d : Int) := by omega
  have hdi1 : (d : Int) < 16 := by omega
  have hdi2 : ¬ (d : Int) < 0 := by omega
  have SC := Lib.hid (fun W => sum3 (x.r.getD b 0) (x.r.getD d 0) (getD_lt hx d) W)
  rw [sumN_eq 3 _ _ (by decide) (getD_lt hx b) (getD_lt hx d)] at SC
  have SL := Lib.hid (sumN_lt 3 (x.r.getD b 0) (x.r.getD d 0))
  generalize sumN 3 (x.r.getD b 0) (x.r.getD d 0) = sm at *
  generalize x.r.getD d 0 = vd at *
  clear hb s
  generalize kN n = kk at *
  generalize nxN x = nx at *
  generalize x.r.getD 16 0 = pc at *
  generalize x.r.getD a 0 = va at *
  generalize x.r.getD b 0 = vb at *
  unfold cpuA opA exitA at *
  go_enter Tryd.func24, Tryd.ntmps24
  go_upto_region 1 with (fail)
  generalize hw1 : ((w.alloc (.cells _ 67)).alloc _).alloc _ = w1 at *
  clear hw1
  have cc0 := D.out.c.cellAt (i := 0) rfl
  have oc0 := D.out.o.cellAt (i := 0) rfl
  have oc1 := D.out.o.cellAt (i := 1) rfl
  have oc2 := D.out.o.cellAt (i := 2) rfl
  have oc4 := D.out.o.cellAt (i := 4) rfl
  have s16 := D.out.s.cellAt G16.out
  have sA := D.out.s.cellAt GA.out
  have sB := D.out.s.cellAt GB.out
  have f16 := D.out.s.unfrozen 16
  have fA := D.out.s.unfrozen a
  go_upto_region 4 with (fail)
  go_quiet (fail)
  have D3 := Lib.hid (D.out.drewN nq)
  clear cc0 oc0 oc1 oc2 oc4 s16 sA sB f16 fA D
  generalize w1.drewN nq = w3 at *
  have cc0 := D3.out.c.cellAt (i := 0) rfl
  have oc0 := D3.out.o.cellAt (i := 0) rfl
  have oc1 := D3.out.o.cellAt (i := 1) rfl
  have s16 := D3.out.s.cellAt G16.out
  have sA := D3.out.s.cellAt GA.out
  have f16 := D3.out.s.unfrozen 16
  have fA := D3.out.s.unfrozen a
  have oc3 := D3.out.o.cellAt (i := 3) rfl
  have sD := D3.out.s.cellAt GD.out
  go_upto_region 7 with (fail)
  have E1 := Lib.hid ((D3.out.d1.drewN 1).reg ap hx (a := a) (by omega) sm)
  clear D3
  go_still_tail 17, (by kernel_rfl)
  still_call (SC.out _)
  repeat still_step
  refine wpStill_nil ?_
  change wpList _ _ _ _ _ (World.drewN _ 1)
  go_upto_region 47 with (fail)
  generalize World.setCell _ _ _ = w4 at *
  have OK1 := Lib.hid (hx.reg (a := a) SL.out)
  have t16 := E1.out.s.cellAt (OK1.out.gr (i := 16) (by decide))
  have tf := E1.out.s.unfrozen 16
  have E2 := Lib.hid (E1.out.reg ap OK1.out (a := 16) (by decide) nx)
  have e0 := E2.out.e.cellAt (i := 0) rfl
  have e1 := E2.out.e.cellAt (i := 1) rfl
  have ef0 := E2.out.e.unfrozen 0
  have ef1 := E2.out.e.unfrozen 1
  have F := Lib.hid (E2.out.fin HPG.out hmb 0 0)
  clear E1 E2
  go_wp2
  refine bodyPost_ret (v := .agg #[.int .u8 0, .int .u64 0]) (results_cell_row Tryd.results24 _ _ (w.heap.size + 1 + 1) _ #[.int .u8 0, .int .u64 0] _ _ rfl F.out.2 Tryd.underlying50 rfl (by simpa using size2x)) rfl F.out.1
set_option maxRecDepth 8000 in
set_option maxHeartbeats 8000000 in
theorem do_sum4 {B sb mb : Nat} {pv : Nat → Value} {M : Me} {w : World} (x : Se) (hx : x.Ok) (hb : Blk w sb x.cells 26) (s : Mm B mb pv M w) (ap : Apt sb mb pv) (time me : Int) (a b d : Nat) (n : Int) (ha : a < 16) (hb16 : b < 16) (hn : -32768 ≤ n ∧ n ≤ 32767) (hd : d < 16) :
    Calls Tryd.prog 24 #[.agg (cpuA sb mb time me), .agg (opA 4 a b d n)] w (DoP B sb mb pv ⟨(x.reg a (sumN 4 (x.r.getD b 0) (x.r.getD d 0))).reg 16 (nxN x), M, 0, 0⟩ w) := by
  have D := Lib.hid (D0.new time me (opA 4 a b d n) hb s)
  have HPG := Lib.hid (fun g (h : PG pv g) => PG.lt s h)
  have hmb : mb < w.heap.size := s.c.lt
  have hwn : IntKind.i64.wrap n = n := by rw [IntKind.wrap_i64]; omega
  have hwk := kN_wrap n
  have hwx := nx_wrap x
  have KL := Lib.hid (kN_lt n)
  have NL := Lib.hid (nx_lt x)
  have hai : (a : Int) ≤ 15 := by omega
  have hbi : (b : Int) ≤ 15 := by omega
  have hai0 : 0 ≤ (a : Int) := by omega
  have hbi0 : 0 ≤ (b : Int) := by omega
  have hai1 : (a : Int) < 16 := by omega
  have hai2 : ¬ (a : Int) < 0 := by omega
  have hbi2 : ¬ (b : Int) < 0 := by omega
  have hbi1 : (b : Int) < 16 := by omega
  have G16 := Lib.hid (hx.gr (i := 16) (by decide))
  have GA := Lib.hid (hx.gr (i := a) (by omega))
  have GB := Lib.hid (hx.gr (i := b) (by omega))
  have HVA := Lib.hid (getD_lt hx a)
  have HVB := Lib.hid (getD_lt hx b)
  have HPC := Lib.hid (getD_lt hx 16)
  have GD := Lib.hid (hx.gr (i := d) (by omega))
  have hdi : (d : Int) ≤ 15 := by omega
  have hdi0 : 0 ≤ (d : Int) := by omega
  have hdi1 : (d : Int) < 16 := by omega
  have hdi2 : ¬ (d : Int) < 0 := by omega
  have SC := Lib.hid (fun W => sum4 (x.r.getD b 0) (x.r.getD d 0) (getD_lt hx d) W)
  rw [sumN_eq 4 _ _ (by decide) (getD_lt hx b) (getD_lt hx d)] at SC
  have SL := Lib.hid (sumN_lt 4 (x.r.getD b 0) (x.r.getD d 0))
  generalize sumN 4 (x.r.getD b 0) (x.r.getD d 0) = sm at *
  generalize x.r.getD d 0 = vd at *
  clear hb s
  generalize kN n = kk at *
  generalize nxN x = nx at *
  generalize x.r.getD 16 0 = pc at *
  generalize x.r.getD a 0 = va at *
  generalize x.r.getD b 0 = vb at *
  unfold cpuA opA exitA at *
  go_enter Tryd.func24, Tryd.ntmps24
  go_upto_region 1 with (fail)
  generalize hw1 : ((w.alloc (.cells _ 67)).alloc _).alloc _ = w1 at *
  clear hw1
  have cc0 := D.out.c.cellAt (i := 0) rfl
  have oc0 := D.out.o.cellAt (i := 0) rfl
  have oc1 := D.out.o.cellAt (i := 1) rfl
  have oc2 := D.out.o.cellAt (i := 2) rfl
  have oc4 := D.out.o.cellAt (i := 4) rfl
  have s16 := D.out.s.cellAt G16.out
  have sA := D.out.s.cellAt GA.out
  have sB := D.out.s.cellAt GB.out
  have f16 := D.out.s.unfrozen 16
  have fA := D.out.s.unfrozen a
  go_upto_region 4 with (fail)
  go_quiet (fail)
  have D3 := Lib.hid (D.out.drewN nq)
  clear cc0 oc0 oc1 oc2 oc4 s16 sA sB f16 fA D
  generalize w1.drewN nq = w3 at *
  have cc0 := D3.out.c.cellAt (i := 0) rfl
  have oc0 := D3.out.o.cellAt (i := 0) rfl
  have oc1 := D3.out.o.cellAt (i := 1) rfl
  have s16 := D3.out.s.cellAt G16.out
  have sA := D3.out.s.cellAt GA.out
  have f16 := D3.out.s.unfrozen 16
  have fA := D3.out.s.unfrozen a
  have oc3 := D3.out.o.cellAt (i := 3) rfl
  have sD := D3.out.s.cellAt GD.out
  go_upto_region 7 with (fail)
  have E1 := Lib.hid ((D3.out.d1.drewN 1).reg ap hx (a := a) (by omega) sm)
  clear D3
  go_still_tail 17, (by kernel_rfl)
  still_call (SC.out _)
  repeat still_step
  refine wpStill_nil ?_
  change wpList _ _ _ _ _ (World.drewN _ 1)
  go_upto_region 47 with (fail)
  generalize World.setCell _ _ _ = w4 at *
  have OK1 := Lib.hid (hx.reg (a := a) SL.out)
  have t16 := E1.out.s.cellAt (OK1.out.gr (i := 16) (by decide))
  have tf := E1.out.s.unfrozen 16
  have E2 := Lib.hid (E1.out.reg ap OK1.out (a := 16) (by decide) nx)
  have e0 := E2.out.e.cellAt (i := 0) rfl
  have e1 := E2.out.e.cellAt (i := 1) rfl
  have ef0 := E2.out.e.unfrozen 0
  have ef1 := E2.out.e.unfrozen 1
  have F := Lib.hid (E2.out.fin HPG.out hmb 0 0)
  clear E1 E2
  go_wp2
  refine bodyPost_ret (v := .agg #[.int .u8 0, .int .u64 0]) (results_cell_row Tryd.results24 _ _ (w.heap.size + 1 + 1) _ #[.int .u8 0, .int .u64 0] _ _ rfl F.out.2 Tryd.underlying50 rfl (by simpa using size2x)) rfl F.out.1
set_option maxRecDepth 8000 in
set_option maxHeartbeats 8000000 in
theorem do_sum5 {B sb mb : Nat} {pv : Nat → Value} {M : Me} {w : World} (x : Se) (hx : x.Ok) (hb : Blk w sb x.cells 26) (s : Mm B mb pv M w) (ap : Apt sb mb pv) (time me : Int) (a b d : Nat) (n : Int) (ha : a < 16) (hb16 : b < 16) (hn : -32768 ≤ n ∧ n ≤ 32767) (hd : d < 16) :
    Calls Tryd.prog 24 #[.agg (cpuA sb mb time me), .agg (opA 5 a b d n)] w (DoP B sb mb pv ⟨(x.reg a (sumN 5 (x.r.getD b 0) (x.r.getD d 0))).reg 16 (nxN x), M, 0, 0⟩ w) := by
  have D := Lib.hid (D0.new time me (opA 5 a b d n) hb s)
  have HPG := Lib.hid (fun g (h : PG pv g) => PG.lt s h)
  have hmb : mb < w.heap.size := s.c.lt
  have hwn : IntKind.i64.wrap n = n := by rw [IntKind.wrap_i64]; omega
  have hwk := kN_wrap n
  have hwx := nx_wrap x
  have KL := Lib.hid (kN_lt n)
  have NL := Lib.hid (nx_lt x)
  have hai : (a : Int) ≤ 15 := by omega
  have hbi : (b : Int) ≤ 15 := by omega
  have hai0 : 0 ≤ (a : Int) := by omega
  have hbi0 : 0 ≤ (b : Int) := by omega
  have hai1 : (a : Int) < 16 := by omega
  have hai2 : ¬ (a : Int) < 0 := by omega
  have hbi2 : ¬ (b : Int) < 0 := by omega
  have hbi1 : (b : Int) < 16 := by omega
  have G16 := Lib.hid (hx.gr (i := 16) (by decide))
  have GA := Lib.hid (hx.gr (i := a) (by omega))
  have GB := Lib.hid (hx.gr (i := b) (by omega))
  have HVA := Lib.hid (getD_lt hx a)
  have HVB := Lib.hid (getD_lt hx b)
  have HPC := Lib.hid (getD_lt hx 16)
  have GD := Lib.hid (hx.gr (i := d) (by omega))
  have hdi : (d : Int) ≤ 15 := by omega
  have hdi0 : 0 ≤ (d : Int) := by omega
  have hdi1 : (d : Int) < 16 := by omega
  have hdi2 : ¬ (d : Int) < 0 := by omega
  have SC := Lib.hid (fun W => sum5 (x.r.getD b 0) (x.r.getD d 0) (getD_lt hx d) W)
  rw [sumN_eq 5 _ _ (by decide) (getD_lt hx b) (getD_lt hx d)] at SC
  have SL := Lib.hid (sumN_lt 5 (x.r.getD b 0) (x.r.getD d 0))
  generalize sumN 5 (x.r.getD b 0) (x.r.getD d 0) = sm at *
  generalize x.r.getD d 0 = vd at *
  clear hb s
  generalize kN n = kk at *
  generalize nxN x = nx at *
  generalize x.r.getD 16 0 = pc at *
  generalize x.r.getD a 0 = va at *
  generalize x.r.getD b 0 = vb at *
  unfold cpuA opA exitA at *
  go_enter Tryd.func24, Tryd.ntmps24
  go_upto_region 1 with (fail)
  generalize hw1 : ((w.alloc (.cells _ 67)).alloc _).alloc _ = w1 at *
  clear hw1
  have cc0 := D.out.c.cellAt (i := 0) rfl
  have oc0 := D.out.o.cellAt (i := 0) rfl
  have oc1 := D.out.o.cellAt (i := 1) rfl
  have oc2 := D.out.o.cellAt (i := 2) rfl
  have oc4 := D.out.o.cellAt (i := 4) rfl
  have s16 := D.out.s.cellAt G16.out
  have sA := D.out.s.cellAt GA.out
  have sB := D.out.s.cellAt GB.out
  have f16 := D.out.s.unfrozen 16
  have fA := D.out.s.unfrozen a
  go_upto_region 4 with (fail)
  go_quiet (fail)
  have D3 := Lib.hid (D.out.drewN nq)
  clear cc0 oc0 oc1 oc2 oc4 s16 sA sB f16 fA D
  generalize w1.drewN nq = w3 at *
  have cc0 := D3.out.c.cellAt (i := 0) rfl
  have oc0 := D3.out.o.cellAt (i := 0) rfl
  have oc1 := D3.out.o.cellAt (i := 1) rfl
  have s16 := D3.out.s.cellAt G16.out
  have sA := D3.out.s.cellAt GA.out
  have f16 := D3.out.s.unfrozen 16
  have fA := D3.out.s.unfrozen a
  have oc3 := D3.out.o.cellAt (i := 3) rfl
  have sD := D3.out.s.cellAt GD.out
  go_upto_region 7 with (fail)
  have E1 := Lib.hid ((D3.out.d1.drewN 1).reg ap hx (a := a) (by omega) sm)
  clear D3
  go_still_tail 17, (by kernel_rfl)
  still_call (SC.out _)
  repeat still_step
  refine wpStill_nil ?_
  change wpList _ _ _ _ _ (World.drewN _ 1)
  go_upto_region 47 with (fail)
  generalize World.setCell _ _ _ = w4 at *
  have OK1 := Lib.hid (hx.reg (a := a) SL.out)
  have t16 := E1.out.s.cellAt (OK1.out.gr (i := 16) (by decide))
  have tf := E1.out.s.unfrozen 16
  have E2 := Lib.hid (E1.out.reg ap OK1.out (a := 16) (by decide) nx)
  have e0 := E2.out.e.cellAt (i := 0) rfl
  have e1 := E2.out.e.cellAt (i := 1) rfl
  have ef0 := E2.out.e.unfrozen 0
  have ef1 := E2.out.e.unfrozen 1
  have F := Lib.hid (E2.out.fin HPG.out hmb 0 0)
  clear E1 E2
  go_wp2
  refine bodyPost_ret (v := .agg #[.int .u8 0, .int .u64 0]) (results_cell_row Tryd.results24 _ _ (w.heap.size + 1 + 1) _ #[.int .u8 0, .int .u64 0] _ _ rfl F.out.2 Tryd.underlying50 rfl (by simpa using size2x)) rfl F.out.1
set_option maxRecDepth 8000 in
set_option maxHeartbeats 8000000 in
theorem do_sum6 {B sb mb : Nat} {pv : Nat → Value} {M : Me} {w : World} (x : Se) (hx : x.Ok) (hb : Blk w sb x.cells 26) (s : Mm B mb pv M w) (ap : Apt sb mb pv) (time me : Int) (a b d : Nat) (n : Int) (ha : a < 16) (hb16 : b < 16) (hn : -32768 ≤ n ∧ n ≤ 32767) (hd : d < 16) :
    Calls Tryd.prog 24 #[.agg (cpuA sb mb time me), .agg (opA 6 a b d n)] w (DoP B sb mb pv ⟨(x.reg a (sumN 6 (x.r.getD b 0) (x.r.getD d 0))).reg 16 (nxN x), M, 0, 0⟩ w) := by
  have D := Lib.hid (D0.new time me (opA 6 a b d n) hb s)
  have HPG := Lib.hid (fun g (h : PG pv g) => PG.lt s h)
  have hmb : mb < w.heap.size := s.c.lt
  have hwn : IntKind.i64.wrap n = n := by rw [IntKind.wrap_i64]; omega
  have hwk := kN_wrap n
  have hwx := nx_wrap x
  have KL := Lib.hid (kN_lt n)
  have NL := Lib.hid (nx_lt x)
  have hai : (a : Int) ≤ 15 := by omega
  have hbi : (b : Int) ≤ 15 := by omega
  have hai0 : 0 ≤ (a : Int) := by omega
  have hbi0 : 0 ≤ (b : Int) := by omega
  have hai1 : (a : Int) < 16 := by omega
  have hai2 : ¬ (a : Int) < 0 := by omega
  have hbi2 : ¬ (b : Int) < 0 := by omega
  have hbi1 : (b : Int) < 16 := by omega
  have G16 := Lib.hid (hx.gr (i := 16) (by decide))
  have GA := Lib.hid (hx.gr (i := a) (by omega))
  have GB := Lib.hid (hx.gr (i := b) (by omega))
  have HVA := Lib.hid (getD_lt hx a)
  have HVB := Lib.hid (getD_lt hx b)
  have HPC := Lib.hid (getD_lt hx 16)
  have GD := Lib.hid (hx.gr (i := d) (by omega))
  have hdi : (d : Int) ≤ 15 := by omega
  have hdi0 : 0 ≤ (d : Int) := by omega
  have hdi1 : (d : Int) < 16 := by omega
  have hdi2 : ¬ (d : Int) < 0 := by omega
  have SC := Lib.hid (fun W => sum6 (x.r.getD b 0) (x.r.getD d 0) (getD_lt hx d) W)
  rw [sumN_eq 6 _ _ (by decide) (getD_lt hx b) (getD_lt hx d)] at SC
  have SL := Lib.hid (sumN_lt 6 (x.r.getD b 0) (x.r.getD d 0))
  generalize sumN 6 (x.r.getD b 0) (x.r.getD d 0) = sm at *
  generalize x.r.getD d 0 = vd at *
  clear hb s
  generalize kN n = kk at *
  generalize nxN x = nx at *
  generalize x.r.getD 16 0 = pc at *
  generalize x.r.getD a 0 = va at *
  generalize x.r.getD b 0 = vb at *
  unfold cpuA opA exitA at *
  go_enter Tryd.func24, Tryd.ntmps24
  go_upto_region 1 with (fail)
  generalize hw1 : ((w.alloc (.cells _ 67)).alloc _).alloc _ = w1 at *
  clear hw1
  have cc0 := D.out.c.cellAt (i := 0) rfl
  have oc0 := D.out.o.cellAt (i := 0) rfl
  have oc1 := D.out.o.cellAt (i := 1) rfl
  have oc2 := D.out.o.cellAt (i := 2) rfl
  have oc4 := D.out.o.cellAt (i := 4) rfl
  have s16 := D.out.s.cellAt G16.out
  have sA := D.out.s.cellAt GA.out
  have sB := D.out.s.cellAt GB.out
  have f16 := D.out.s.unfrozen 16
  have fA := D.out.s.unfrozen a
  go_upto_region 4 with (fail)
  go_quiet (fail)
  have D3 := Lib.hid (D.out.drewN nq)
  clear cc0 oc0 oc1 oc2 oc4 s16 sA sB f16 fA D
  generalize w1.drewN nq = w3 at *
  have cc0 := D3.out.c.cellAt (i := 0) rfl
  have oc0 := D3.out.o.cellAt (i := 0) rfl
  have oc1 := D3.out.o.cellAt (i := 1) rfl
  have s16 := D3.out.s.cellAt G16.out
  have sA := D3.out.s.cellAt GA.out
  have f16 := D3.out.s.unfrozen 16
  have fA := D3.out.s.unfrozen a
  have oc3 := D3.out.o.cellAt (i := 3) rfl
  have sD := D3.out.s.cellAt GD.out
  go_upto_region 7 with (fail)
  have E1 := Lib.hid ((D3.out.d1.drewN 1).reg ap hx (a := a) (by omega) sm)
  clear D3
  go_still_tail 17, (by kernel_rfl)
  still_call (SC.out _)
  repeat still_step
  refine wpStill_nil ?_
  change wpList _ _ _ _ _ (World.drewN _ 1)
  go_upto_region 47 with (fail)
  generalize World.setCell _ _ _ = w4 at *
  have OK1 := Lib.hid (hx.reg (a := a) SL.out)
  have t16 := E1.out.s.cellAt (OK1.out.gr (i := 16) (by decide))
  have tf := E1.out.s.unfrozen 16
  have E2 := Lib.hid (E1.out.reg ap OK1.out (a := 16) (by decide) nx)
  have e0 := E2.out.e.cellAt (i := 0) rfl
  have e1 := E2.out.e.cellAt (i := 1) rfl
  have ef0 := E2.out.e.unfrozen 0
  have ef1 := E2.out.e.unfrozen 1
  have F := Lib.hid (E2.out.fin HPG.out hmb 0 0)
  clear E1 E2
  go_wp2
  refine bodyPost_ret (v := .agg #[.int .u8 0, .int .u64 0]) (results_cell_row Tryd.results24 _ _ (w.heap.size + 1 + 1) _ #[.int .u8 0, .int .u64 0] _ _ rfl F.out.2 Tryd.underlying50 rfl (by simpa using size2x)) rfl F.out.1
set_option maxRecDepth 8000 in
set_option maxHeartbeats 8000000 in
theorem do_sum7 {B sb mb : Nat} {pv : Nat → Value} {M : Me} {w : World} (x : Se) (hx : x.Ok) (hb : Blk w sb x.cells 26) (s : Mm B mb pv M w) (ap : Apt sb mb pv) (time me : Int) (a b d : Nat) (n : Int) (ha : a < 16) (hb16 : b < 16) (hn : -32768 ≤ n ∧ n ≤ 32767) (hd : d < 16) :
    Calls Tryd.prog 24 #[.agg (cpuA sb mb time me), .agg (opA 7 a b d n)] w (DoP B sb mb pv ⟨(x.reg a (sumN 7 (x.r.getD b 0) (x.r.getD d 0))).reg 16 (nxN x), M, 0, 0⟩ w) := by
  have D := Lib.hid (D0.new time me (opA 7 a b d n) hb s)
  have HPG := Lib.hid (fun g (h : PG pv g) => PG.lt s h)
  have hmb : mb < w.heap.size := s.c.lt
  have hwn : IntKind.i64.wrap n = n := by rw [IntKind.wrap_i64]; omega
  have hwk := kN_wrap n
  have hwx := nx_wrap x
  have KL := Lib.hid (kN_lt n)
  have NL := Lib.hid (nx_lt x)
  have hai : (a : Int) ≤ 15 := by omega
  have hbi : (b : Int) ≤ 15 := by omega
  have hai0 : 0 ≤ (a : Int) := by omega
  have hbi0 : 0 ≤ (b : Int) := by omega
  have hai1 : (a : Int) < 16 := by omega
  have hai2 : ¬ (a : Int) < 0 := by omega
  have hbi2 : ¬ (b : Int) < 0 := by omega
  have hbi1 : (b : Int) < 16 := by omega
  have G16 := Lib.hid (hx.gr (i := 16) (by decide))
  have GA := Lib.hid (hx.gr (i := a) (by omega))
  have GB := Lib.hid (hx.gr (i := b) (by omega))
  have HVA := Lib.hid (getD_lt hx a)
  have HVB := Lib.hid (getD_lt hx b)
  have HPC := Lib.hid (getD_lt hx 16)
  have GD := Lib.hid (hx.gr (i := d) (by omega))
  have hdi : (d : Int) ≤ 15 := by omega
  have hdi0 : 0 ≤ (d : Int) := by omega
  have hdi1 : (d : Int) < 16 := by omega
  have hdi2 : ¬ (d : Int) < 0 := by omega
  have SC := Lib.hid (fun W => sum7 (x.r.getD b 0) (x.r.getD d 0) (getD_lt hx d) W)
  rw [sumN_eq 7 _ _ (by decide) (getD_lt hx b) (getD_lt hx d)] at SC
  have SL := Lib.hid (sumN_lt 7 (x.r.getD b 0) (x.r.getD d 0))
  generalize sumN 7 (x.r.getD b 0) (x.r.getD d 0) = sm at *
  generalize x.r.getD d 0 = vd at *
  clear hb s
  generalize kN n = kk at *
  generalize nxN x = nx at *
  generalize x.r.getD 16 0 = pc at *
  generalize x.r.getD a 0 = va at *
  generalize x.r.getD b 0 = vb at *
  unfold cpuA opA exitA at *
  go_enter Tryd.func24, Tryd.ntmps24
  go_upto_region 1 with (fail)
  generalize hw1 : ((w.alloc (.cells _ 67)).alloc _).alloc _ = w1 at *
  clear hw1
  have cc0 := D.out.c.cellAt (i := 0) rfl
  have oc0 := D.out.o.cellAt (i := 0) rfl
  have oc1 := D.out.o.cellAt (i := 1) rfl
  have oc2 := D.out.o.cellAt (i := 2) rfl
  have oc4 := D.out.o.cellAt (i := 4) rfl
  have s16 := D.out.s.cellAt G16.out
  have sA := D.out.s.cellAt GA.out
  have sB := D.out.s.cellAt GB.out
  have f16 := D.out.s.unfrozen 16
  have fA := D.out.s.unfrozen a
  go_upto_region 4 with (fail)
  go_quiet (fail)
  have D3 := Lib.hid (D.out.drewN nq)
  clear cc0 oc0 oc1 oc2 oc4 s16 sA sB f16 fA D
  generalize w1.drewN nq = w3 at *
  have cc0 := D3.out.c.cellAt (i := 0) rfl
  have oc0 := D3.out.o.cellAt (i := 0) rfl
  have oc1 := D3.out.o.cellAt (i := 1) rfl
  have s16 := D3.out.s.cellAt G16.out
  have sA := D3.out.s.cellAt GA.out
  have f16 := D3.out.s.unfrozen 16
  have fA := D3.out.s.unfrozen a
  have oc3 := D3.out.o.cellAt (i := 3) rfl
  have sD := D3.out.s.cellAt GD.out
  go_upto_region 7 with (fail)
  have E1 := Lib.hid ((D3.out.d1.drewN 1).reg ap hx (a := a) (by omega) sm)
  clear D3
  go_still_tail 17, (by kernel_rfl)
  still_call (SC.out _)
  repeat still_step
  refine wpStill_nil ?_
  change wpList _ _ _ _ _ (World.drewN _ 1)
  go_upto_region 47 with (fail)
  generalize World.setCell _ _ _ = w4 at *
  have OK1 := Lib.hid (hx.reg (a := a) SL.out)
  have t16 := E1.out.s.cellAt (OK1.out.gr (i := 16) (by decide))
  have tf := E1.out.s.unfrozen 16
  have E2 := Lib.hid (E1.out.reg ap OK1.out (a := 16) (by decide) nx)
  have e0 := E2.out.e.cellAt (i := 0) rfl
  have e1 := E2.out.e.cellAt (i := 1) rfl
  have ef0 := E2.out.e.unfrozen 0
  have ef1 := E2.out.e.unfrozen 1
  have F := Lib.hid (E2.out.fin HPG.out hmb 0 0)
  clear E1 E2
  go_wp2
  refine bodyPost_ret (v := .agg #[.int .u8 0, .int .u64 0]) (results_cell_row Tryd.results24 _ _ (w.heap.size + 1 + 1) _ #[.int .u8 0, .int .u64 0] _ _ rfl F.out.2 Tryd.underlying50 rfl (by simpa using size2x)) rfl F.out.1
set_option maxRecDepth 8000 in
set_option maxHeartbeats 8000000 in
theorem do_sum8 {B sb mb : Nat} {pv : Nat → Value} {M : Me} {w : World} (x : Se) (hx : x.Ok) (hb : Blk w sb x.cells 26) (s : Mm B mb pv M w) (ap : Apt sb mb pv) (time me : Int) (a b d : Nat) (n : Int) (ha : a < 16) (hb16 : b < 16) (hn : -32768 ≤ n ∧ n ≤ 32767) (hd : d < 16) :
    Calls Tryd.prog 24 #[.agg (cpuA sb mb time me), .agg (opA 8 a b d n)] w (DoP B sb mb pv ⟨(x.reg a (sumN 8 (x.r.getD b 0) (x.r.getD d 0))).reg 16 (nxN x), M, 0, 0⟩ w) := by
  have D := Lib.hid (D0.new time me (opA 8 a b d n) hb s)
  have HPG := Lib.hid (fun g (h : PG pv g) => PG.lt s h)
  have hmb : mb < w.heap.size := s.c.lt
  have hwn : IntKind.i64.wrap n = n := by rw [IntKind.wrap_i64]; omega
  have hwk := kN_wrap n
  have hwx := nx_wrap x
  have KL := Lib.hid (kN_lt n)
  have NL := Lib.hid (nx_lt x)
  have hai : (a : Int) ≤ 15 := by omega
  have hbi : (b : Int) ≤ 15 := by omega
  have hai0 : 0 ≤ (a : Int) := by omega
  have hbi0 : 0 ≤ (b : Int) := by omega
  have hai1 : (a : Int) < 16 := by omega
  have hai2 : ¬ (a : Int) < 0 := by omega
  have hbi2 : ¬ (b : Int) < 0 := by omega
  have hbi1 : (b : Int) < 16 := by omega
  have G16 := Lib.hid (hx.gr (i := 16) (by decide))
  have GA := Lib.hid (hx.gr (i := a) (by omega))
  have GB := Lib.hid (hx.gr (i := b) (by omega))
  have HVA := Lib.hid (getD_lt hx a)
  have HVB := Lib.hid (getD_lt hx b)
  have HPC := Lib.hid (getD_lt hx 16)
  have GD := Lib.hid (hx.gr (i := d) (by omega))
  have hdi : (d : Int) ≤ 15 := by omega
  have hdi0 : 0 ≤ (d : Int) := by omega
  have hdi1 : (d : Int) < 16 := by omega
  have hdi2 : ¬ (d : Int) < 0 := by omega
  have SC := Lib.hid (fun W => sum8 (x.r.getD b 0) (x.r.getD d 0) (getD_lt hx d) W)
  rw [sumN_eq 8 _ _ (by decide) (getD_lt hx b) (getD_lt hx d)] at SC
  have SL := Lib.hid (sumN_lt 8 (x.r.getD b 0) (x.r.getD d 0))
  generalize sumN 8 (x.r.getD b 0) (x.r.getD d 0) = sm at *
  generalize x.r.getD d 0 = vd at *
  clear hb s
  generalize kN n = kk at *
  generalize nxN x = nx at *
  generalize x.r.getD 16 0 = pc at *
  generalize x.r.getD a 0 = va at *
  generalize x.r.getD b 0 = vb at *
  unfold cpuA opA exitA at *
  go_enter Tryd.func24, Tryd.ntmps24
  go_upto_region 1 with (fail)
  generalize hw1 : ((w.alloc (.cells _ 67)).alloc _).alloc _ = w1 at *
  clear hw1
  have cc0 := D.out.c.cellAt (i := 0) rfl
  have oc0 := D.out.o.cellAt (i := 0) rfl
  have oc1 := D.out.o.cellAt (i := 1) rfl
  have oc2 := D.out.o.cellAt (i := 2) rfl
  have oc4 := D.out.o.cellAt (i := 4) rfl
  have s16 := D.out.s.cellAt G16.out
  have sA := D.out.s.cellAt GA.out
  have sB := D.out.s.cellAt GB.out
  have f16 := D.out.s.unfrozen 16
  have fA := D.out.s.unfrozen a
  go_upto_region 4 with (fail)
  go_quiet (fail)
  have D3 := Lib.hid (D.out.drewN nq)
  clear cc0 oc0 oc1 oc2 oc4 s16 sA sB f16 fA D
  generalize w1.drewN nq = w3 at *
  have cc0 := D3.out.c.cellAt (i := 0) rfl
  have oc0 := D3.out.o.cellAt (i := 0) rfl
  have oc1 := D3.out.o.cellAt (i := 1) rfl
  have s16 := D3.out.s.cellAt G16.out
  have sA := D3.out.s.cellAt GA.out
  have f16 := D3.out.s.unfrozen 16
  have fA := D3.out.s.unfrozen a
  have oc3 := D3.out.o.cellAt (i := 3) rfl
  have sD := D3.out.s.cellAt GD.out
  go_upto_region 7 with (fail)
  have E1 := Lib.hid ((D3.out.d1.drewN 1).reg ap hx (a := a) (by omega) sm)
  clear D3
  go_still_tail 17, (by kernel_rfl)
  still_call (SC.out _)
  repeat still_step
  refine wpStill_nil ?_
  change wpList _ _ _ _ _ (World.drewN _ 1)
  go_upto_region 47 with (fail)
  generalize World.setCell _ _ _ = w4 at *
  have OK1 := Lib.hid (hx.reg (a := a) SL.out)
  have t16 := E1.out.s.cellAt (OK1.out.gr (i := 16) (by decide))
  have tf := E1.out.s.unfrozen 16
  have E2 := Lib.hid (E1.out.reg ap OK1.out (a := 16) (by decide) nx)
  have e0 := E2.out.e.cellAt (i := 0) rfl
  have e1 := E2.out.e.cellAt (i := 1) rfl
  have ef0 := E2.out.e.unfrozen 0
  have ef1 := E2.out.e.unfrozen 1
  have F := Lib.hid (E2.out.fin HPG.out hmb 0 0)
  clear E1 E2
  go_wp2
  refine bodyPost_ret (v := .agg #[.int .u8 0, .int .u64 0]) (results_cell_row Tryd.results24 _ _ (w.heap.size + 1 + 1) _ #[.int .u8 0, .int .u64 0] _ _ rfl F.out.2 Tryd.underlying50 rfl (by simpa using size2x)) rfl F.out.1
set_option maxRecDepth 8000 in
set_option maxHeartbeats 8000000 in
theorem do_sum9 {B sb mb : Nat} {pv : Nat → Value} {M : Me} {w : World} (x : Se) (hx : x.Ok) (hb : Blk w sb x.cells 26) (s : Mm B mb pv M w) (ap : Apt sb mb pv) (time me : Int) (a b d : Nat) (n : Int) (ha : a < 16) (hb16 : b < 16) (hn : -32768 ≤ n ∧ n ≤ 32767) (hd : d < 16) :
    Calls Tryd.prog 24 #[.agg (cpuA sb mb time me), .agg (opA 9 a b d n)] w (DoP B sb mb pv ⟨(x.reg a (sumN 9 (x.r.getD b 0) (x.r.getD d 0))).reg 16 (nxN x), M, 0, 0⟩ w) := by
  have D := Lib.hid (D0.new time me (opA 9 a b d n) hb s)
  have HPG := Lib.hid (fun g (h : PG pv g) => PG.lt s h)
  have hmb : mb < w.heap.size := s.c.lt
  have hwn : IntKind.i64.wrap n = n := by rw [IntKind.wrap_i64]; omega
  have hwk := kN_wrap n
  have hwx := nx_wrap x
  have KL := Lib.hid (kN_lt n)
  have NL := Lib.hid (nx_lt x)
  have hai : (a : Int) ≤ 15 := by omega
  have hbi : (b : Int) ≤ 15 := by omega
  have hai0 : 0 ≤ (a : Int) := by omega
  have hbi0 : 0 ≤ (b : Int) := by omega
  have hai1 : (a : Int) < 16 := by omega
  have hai2 : ¬ (a : Int) < 0 := by omega
  have hbi2 : ¬ (b : Int) < 0 := by omega
  have hbi1 : (b : Int) < 16 := by omega
  have G16 := Lib.hid (hx.gr (i := 16) (by decide))
  have GA := Lib.hid (hx.gr (i := a) (by omega))
  have GB := Lib.hid (hx.gr (i := b) (by omega))
  have HVA := Lib.hid (getD_lt hx a)
  have HVB := Lib.hid (getD_lt hx b)
  have HPC := Lib.hid (getD_lt hx 16)
  have GD := Lib.hid (hx.gr (i := d) (by omega))
  have hdi : (d : Int) ≤ 15 := by omega
  have hdi0 : 0 ≤ (d : Int) := by omega
  have hdi1 : (d : Int) < 16 := by omega
  have hdi2 : ¬ (d : Int) < 0 := by omega
  have SC := Lib.hid (fun W => sum9 (x.r.getD b 0) (x.r.getD d 0) (getD_lt hx d) W)
  rw [sumN_eq 9 _ _ (by decide) (getD_lt hx b) (getD_lt hx d)] at SC
  have SL := Lib.hid (sumN_lt 9 (x.r.getD b 0) (x.r.getD d 0))
  generalize sumN 9 (x.r.getD b 0) (x.r.getD d 0) = sm at *
  generalize x.r.getD d 0 = vd at *
  clear hb s
  generalize kN n = kk at *
  generalize nxN x = nx at *
  generalize x.r.getD 16 0 = pc at *
  generalize x.r.getD a 0 = va at *
  generalize x.r.getD b 0 = vb at *
  unfold cpuA opA exitA at *
  go_enter Tryd.func24, Tryd.ntmps24
  go_upto_region 1 with (fail)
  generalize hw1 : ((w.alloc (.cells _ 67)).alloc _).alloc _ = w1 at *
  clear hw1
  have cc0 := D.out.c.cellAt (i := 0) rfl
  have oc0 := D.out.o.cellAt (i := 0) rfl
  have oc1 := D.out.o.cellAt (i := 1) rfl
  have oc2 := D.out.o.cellAt (i := 2) rfl
  have oc4 := D.out.o.cellAt (i := 4) rfl
  have s16 := D.out.s.cellAt G16.out
  have sA := D.out.s.cellAt GA.out
  have sB := D.out.s.cellAt GB.out
  have f16 := D.out.s.unfrozen 16
  have fA := D.out.s.unfrozen a
  go_upto_region 4 with (fail)
  go_quiet (fail)
  have D3 := Lib.hid (D.out.drewN nq)
  clear cc0 oc0 oc1 oc2 oc4 s16 sA sB f16 fA D
  generalize w1.drewN nq = w3 at *
  have cc0 := D3.out.c.cellAt (i := 0) rfl
  have oc0 := D3.out.o.cellAt (i := 0) rfl
  have oc1 := D3.out.o.cellAt (i := 1) rfl
  have s16 := D3.out.s.cellAt G16.out
  have sA := D3.out.s.cellAt GA.out
  have f16 := D3.out.s.unfrozen 16
  have fA := D3.out.s.unfrozen a
  have oc3 := D3.out.o.cellAt (i := 3) rfl
  have sD := D3.out.s.cellAt GD.out
  go_upto_region 7 with (fail)
  have E1 := Lib.hid ((D3.out.d1.drewN 1).reg ap hx (a := a) (by omega) sm)
  clear D3
  go_still_tail 17, (by kernel_rfl)
  still_call (SC.out _)
  repeat still_step
  refine wpStill_nil ?_
  change wpList _ _ _ _ _ (World.drewN _ 1)
  go_upto_region 47 with (fail)
  generalize World.setCell _ _ _ = w4 at *
  have OK1 := Lib.hid (hx.reg (a := a) SL.out)
  have t16 := E1.out.s.cellAt (OK1.out.gr (i := 16) (by decide))
  have tf := E1.out.s.unfrozen 16
  have E2 := Lib.hid (E1.out.reg ap OK1.out (a := 16) (by decide) nx)
  have e0 := E2.out.e.cellAt (i := 0) rfl
  have e1 := E2.out.e.cellAt (i := 1) rfl
  have ef0 := E2.out.e.unfrozen 0
  have ef1 := E2.out.e.unfrozen 1
  have F := Lib.hid (E2.out.fin HPG.out hmb 0 0)
  clear E1 E2
  go_wp2
  refine bodyPost_ret (v := .agg #[.int .u8 0, .int .u64 0]) (results_cell_row Tryd.results24 _ _ (w.heap.size + 1 + 1) _ #[.int .u8 0, .int .u64 0] _ _ rfl F.out.2 Tryd.underlying50 rfl (by simpa using size2x)) rfl F.out.1
end Go.Proofs.YtjlodddlbgpcdaaDoor.Walks
