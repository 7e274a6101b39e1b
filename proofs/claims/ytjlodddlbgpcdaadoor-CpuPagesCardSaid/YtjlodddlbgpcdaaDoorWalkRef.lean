/- Walks through the functions of the statement, and the statement over them: each contract says what the call answers and that nothing else changes. -/
import Derived.Test.YtjlodddlbgpcdaaDoorProg
import Derived.Test.YtjlodddlbgpcdaaDoorBits
import Derived.Test.YtjlodddlbgpcdaaDoorHeap
import Derived.Test.YtjlodddlbgpcdaaDoorAid
import Derived.Test.YtjlodddlbgpcdaaDoorArr
import Derived.Test.YtjlodddlbgpcdaaDoorEql
import Derived.Test.YtjlodddlbgpcdaaDoorWalkBase
import Derived.Test.YtjlodddlbgpcdaaDoorWalkCode
import Derived.Lib.Hide
import Derived.WalkKit
import Derived.WalkSpells
import Derived.WalkLawsBesides
import Derived.Deep.QuietTactic
import Derived.BigQuiet
import Derived.Deep.RegionHeld3
import Derived.Deep.DeepCutAuto
import Derived.Deep.CutBlock
import Derived.Lib.SlBytesConst
import Derived.StillTailTactics
import Derived.RegionTactic
import Derived.Deep.RegionLaw
import Derived.Laws.BytesString
import Derived.Laws.MakeOwn
import Derived.Deep.AppendLies
import Derived.Laws.CopyOwn
import Derived.Maps.AppendAt
import Derived.Deep.Upon
import Derived.Deep.AppendSrc
import Derived.Shelf.Abstract
import Derived.Shelf.Spec.TrailingZeros
namespace Go.Proofs.YtjlodddlbgpcdaaDoor.Walks
set_option linter.unusedVariables false
set_option linter.unusedSimpArgs false
open Go.RowKit Go.Proofs.YtjlodddlbgpcdaaDoor.Bits Go.Proofs.YtjlodddlbgpcdaaDoor.Heap Go.Proofs.YtjlodddlbgpcdaaDoor.Aid Go.Proofs.YtjlodddlbgpcdaaDoor.Arr Go.Proofs.YtjlodddlbgpcdaaDoor.Eql

def nearN (c : Nat) (n : Int) : Int := if c = 18 ∨ c = 19 then ((uN n % 9 : Nat) : Int) else if fN c then n else 0
def tabF : List Int := [0, 9, 9, 7, 7, 7, 7, 7, 7, 7, 7, 11, 11, 11, 11, 11, 11, 11, 9, 9, 8, 0, 0]
def refF (c : Nat) : Int := tabF.getD c 0
theorem refF_ok (c : Nat) (h : c < 23) : tabF[c]? = some (refF c) := by
  have : ∀ c : Fin 23, tabF[c.1]? = some (refF c.1) := by decide
  exact this ⟨c, h⟩
set_option maxHeartbeats 1000000 in
theorem refFields_calls (c : Nat) (hc : c < 23) (w : World) :
    Calls Tryd.prog 12 #[.int .u8 c] w fun e w' => e = .returned (.int .i64 (refF c)) ∧ Below w.heap.size w w' := by
  have hci : (c : Int) < 23 := by omega
  have hc0 : 0 ≤ (c : Int) := by omega
  have hcell : (w.alloc (.cells (tabF.map (Value.int .i64)).toArray 3)).cell? ⟨w.heap.size, c, none⟩ = some (.int .i64 (refF c)) := by
    refine (Blk.new w _ _).cellAt ?_
    show (tabF.map (Value.int .i64))[c]? = _
    rw [List.getElem?_map, refF_ok c hc]; rfl
  generalize refF c = r at *
  go_enter Tryd.func12, Tryd.ntmps12
  simp only [tabF, List.map] at hcell
  go_wp2
  go_ret
  exact ⟨rfl, (Below.refl _ _).alloc (Nat.le_refl _) _⟩
theorem refF_bits (c : Nat) (h : c < 23) : refF c = (if fA c then 1 else 0) + (if fB c then 2 else 0) + (if fC c then 4 else 0) + (if fN c then 8 else 0) := by
  have : ∀ c : Fin 23, refF c.1 = (if fA (c.1 : Nat) then 1 else 0) + (if fB (c.1 : Nat) then 2 else 0) + (if fC (c.1 : Nat) then 4 else 0) + (if fN (c.1 : Nat) then 8 else 0) := by decide
  exact this ⟨c, h⟩
theorem refF_props (c : Nat) (h : c < 23) : 0 ≤ refF c ∧ refF c ≤ 15 ∧ (fA c = true ↔ refF c % 2 = 1) ∧ (fB c = true ↔ refF c / 2 % 2 = 1) ∧ (fC c = true ↔ refF c / 4 % 2 = 1) ∧ (fN c = true ↔ refF c / 8 = 1) := by
  rw [refF_bits c h]
  cases fA c <;> cases fB c <;> cases fC c <;> cases fN c <;> decide
theorem rightB_F {c a b d : Nat} {n : Int} (h : c < 23) : rightB c a b d n =
    decide ((a = 0 ∨ refF c % 2 = 1 ∧ a < 16) ∧ (b = 0 ∨ refF c / 2 % 2 = 1 ∧ b < 16) ∧ (d = 0 ∨ refF c / 4 % 2 = 1 ∧ d < 16) ∧ (refF c / 8 = 1 ∨ n = 0) ∧ (c = 18 ∨ c = 19 → 0 ≤ n ∧ n < 9)) := by
  obtain ⟨_, _, h1, h2, h3, h4⟩ := refF_props c h
  unfold rightB oneB
  rw [decide_eq_decide, decide_eq_true_iff, decide_eq_true_iff, decide_eq_true_iff, h1, h2, h3, h4]
  omega
theorem wrap16 (n : Int) : IntKind.u16.wrap n = ((uN n : Nat) : Int) := by
  simp [IntKind.wrap, IntKind.signed, IntKind.bits, uN]
  omega
set_option maxHeartbeats 1000000 in
theorem refWord_calls (c a b d : Nat) (n : Int) (hc : c < 23) (ha : a < 16) (hb : b < 16) (hd : d < 16) (w : World) :
    Calls Tryd.prog 13 #[.int .u8 c, .int .u8 a, .int .u8 b, .int .u8 d, .int .i16 n] w fun e w' => e = .returned (.int .u32 (wordF c a b d n : Nat)) ∧ Below w.heap.size w w' := by
  have HF := Lib.hid (refFields_calls c hc)
  obtain ⟨p0, p1, _, _, p4, _⟩ := refF_props c hc
  have EW := Lib.hid (show wordF c a b d n = wordN c a b + if fC c then d else uN n from rfl)
  generalize wordF c a b d n = res at *
  have HN := Lib.hid (show ((wordN c a b : Nat) : Int) = (c : Int) * 67108864 + (a : Int) * 4194304 + (b : Int) * 262144 by unfold wordN; omega)
  have P4 := Lib.hid p4
  clear p4
  generalize refF c = F at *
  go_enter Tryd.func13, Tryd.ntmps13
  go_wp2_with fail
  refine (HF.out _).mono ?_
  rintro e w2 ⟨rfl, hbe⟩
  have A2 := Lib.hid hbe
  clear hbe
  go_wp2
  · go_ret
    refine ⟨ret_int ?_, A2.out⟩
    have h := P4.out.2 (by simp_all)
    rw [EW.out, if_pos h]
    have := HN.out
    omega
  · go_ret
    refine ⟨ret_int ?_, A2.out⟩
    have h : ¬ fC c = true := fun h => by have := P4.out.1 h; simp_all
    rw [EW.out, if_neg h, wrap16]
    have := HN.out
    have : uN n < 65536 := by unfold uN; omega
    omega
theorem wrap9 (n : Int) : IntKind.i16.wrap ((IntKind.u16.wrap n).tmod 9) = ((uN n % 9 : Nat) : Int) := by
  rw [wrap16, show ((9 : Int)) = ((9 : Nat) : Int) from rfl, tmod_nat]
  have : uN n % 9 < 9 := Nat.mod_lt _ (by omega)
  generalize uN n % 9 = y at *
  simp [IntKind.wrap, IntKind.signed, IntKind.bits]
  omega
theorem f89 (c : Nat) (h : c = 18 ∨ c = 19) : fN c = true := decide_eq_true (by omega)
def pickIf (k : Bool) (a : Nat) : Nat := if k then a % 16 else 0
theorem mulBit (a : Nat) (x : Int) (k : Bool) (h : k = true ↔ x = 1) (h0 : 0 ≤ x) (h1 : x ≤ 1) : (a : Int) % 16 * x % 256 = ((pickIf k a : Nat) : Int) := by
  unfold pickIf
  cases k with
  | true => rw [h.1 rfl, if_pos rfl]; omega
  | false =>
    have : x = 0 := by
      have : ¬ x = 1 := fun e => by have := h.2 e; cases this
      omega
    rw [this, if_neg (by simp), Int.mul_zero]; rfl
end Go.Proofs.YtjlodddlbgpcdaaDoor.Walks
