/- Walks through the functions of the statement, and the statement over them: each contract says what the call answers and that nothing else changes. -/
import Derived.Test.YtbjlldenokdpeaaProg
import Derived.Test.YtbjlldenokdpeaaBits
import Derived.Test.YtbjlldenokdpeaaHeap
import Derived.Test.YtbjlldenokdpeaaAid
import Derived.Lib.Hide
import Derived.Test.YtbjlldenokdpeaaEql
import Derived.Test.YtbjlldenokdpeaaArr
import Derived.Test.YtbjlldenokdpeaaWalkDec
import Derived.WalkKit
import Derived.WalkSpells
import Derived.WalkLawsBesides
import Derived.Deep.QuietTactic
import Derived.BigQuiet
import Derived.Deep.RegionHeld3
import Derived.Deep.DeepCutAuto
import Derived.Deep.CutBlock
import Derived.Lib.SlBytesConst
namespace Go.Proofs.Ytbjlldenokdpeaa.Walks
set_option linter.unusedVariables false
set_option linter.unusedSimpArgs false
open Go.RowKit Go.Proofs.Ytbjlldenokdpeaa.Bits Go.Proofs.Ytbjlldenokdpeaa.Heap Go.Proofs.Ytbjlldenokdpeaa.Aid Go.Proofs.Ytbjlldenokdpeaa.Arr Go.Proofs.Ytbjlldenokdpeaa.Eql

theorem one_pick (k : Bool) (a : Nat) : oneB k (pickIf k a : Nat) = true := by
  unfold oneB pickIf
  cases k with
  | true => exact decide_eq_true (.inr ⟨rfl, by rw [if_pos rfl]; omega⟩)
  | false => exact decide_eq_true (.inl rfl)
theorem near_right (c a b d : Nat) (n : Int) (hc : c < 23) : rightB c (pickIf (fA c) a : Nat) (pickIf (fB c) b : Nat) (pickIf (fC c) d : Nat) (nearN c n) = true := by
  refine decide_eq_true ⟨by omega, one_pick _ _, one_pick _ _, one_pick _ _, ?_, ?_⟩
  · unfold nearN
    by_cases h : c = 18 ∨ c = 19
    · exact .inl (f89 c h)
    · rw [if_neg h]
      cases fN c with
      | true => exact .inl rfl
      | false => exact .inr rfl
  · intro h
    unfold nearN
    rw [if_pos (by omega)]
    omega
theorem nearN_bounds (c : Nat) {n : Int} (hn : -32768 ≤ n ∧ n ≤ 32767) : -32768 ≤ nearN c n ∧ nearN c n ≤ 32767 := by
  unfold nearN
  split
  · omega
  · split <;> omega
theorem pickIf_lt (k : Bool) (a : Nat) : pickIf k a < 16 := by
  unfold pickIf
  split <;> omega
theorem encW_right {c a b d : Nat} {n : Int} (h : rightB c a b d n = true) : encW c a b d n = wordF c a b d n := by
  unfold encW; rw [if_pos h]
theorem wordF_inj {c a b d c' a' b' d' : Nat} {n n' : Int} (h1 : rightB c a b d n = true) (h2 : rightB c' a' b' d' n' = true) (hn : -32768 ≤ n ∧ n ≤ 32767) (hn' : -32768 ≤ n' ∧ n' ≤ 32767)
    (h : wordF c a b d n = wordF c' a' b' d' n') : c = c' ∧ a = a' ∧ b = b' ∧ d = d' ∧ n = n' := by
  have l1 := rightB_lt h1
  have l2 := rightB_lt h2
  have u1 : uN n < 65536 := by unfold uN; omega
  have u2 : uN n' < 65536 := by unfold uN; omega
  unfold wordF wordN at h
  have k1 : (if fC (c : Int) then d else uN n) < 65536 := by split <;> omega
  have k2 : (if fC (c' : Int) then d' else uN n') < 65536 := by split <;> omega
  have e : c = c' ∧ a = a' ∧ b = b' ∧ (if fC (c : Int) then d else uN n) = (if fC (c' : Int) then d' else uN n') := by
    generalize (if fC (c : Int) then d else uN n) = x at *
    generalize (if fC (c' : Int) then d' else uN n') = y at *
    omega
  obtain ⟨rfl, rfl, rfl, e⟩ := e
  have r1 := of_decide_eq_true h1
  have r2 := of_decide_eq_true h2
  refine ⟨rfl, rfl, rfl, ?_⟩
  cases hf : fC (c : Int) with
  | true =>
    rw [hf, if_pos rfl, if_pos rfl] at e
    have hr := of_decide_eq_true hf
    have hN : ¬ fN (c : Int) = true := fun h => by have := of_decide_eq_true h; omega
    have n1 : n = 0 := r1.2.2.2.2.1.resolve_left hN
    have n2 : n' = 0 := r2.2.2.2.2.1.resolve_left hN
    exact ⟨e, by omega⟩
  | false =>
    rw [hf, if_neg (by simp), if_neg (by simp)] at e
    have a1 := of_decide_eq_true r1.2.2.2.1
    have a2 := of_decide_eq_true r2.2.2.2.1
    rw [hf] at a1 a2
    simp only [Bool.false_eq_true, false_and, or_false] at a1 a2
    unfold uN at e
    omega
def shOp : Sh := .seq (.int .u8) (.seq (.int .u8) (.seq (.int .u8) (.seq (.int .u8) (.seq (.int .i16) .nil))))
theorem eqOp : eqSh Try.prog 5 24 = some shOp := by kernel_rfl
theorem wf_mk8 {n : Nat} (h : n < 256) : (Lit.int .u8 (n : Int)).wf = true := by
  simp [Lit.wf, IntKind.min, IntKind.max, IntKind.signed, IntKind.bits]; omega
theorem wf_mk16 {n : Int} (h : -32768 ≤ n ∧ n ≤ 32767) : (Lit.int .i16 n).wf = true := by
  simp [Lit.wf, IntKind.min, IntKind.max, IntKind.signed, IntKind.bits]; omega
theorem fits_mk_op {w : World} {c a b d : Nat} {n : Int} (hc : c < 256) (ha : a < 256) (hb : b < 256) (hd : d < 256) (hn : -32768 ≤ n ∧ n ≤ 32767) : Fits w shOp [.int .u8 c, .int .u8 a, .int .u8 b, .int .u8 d, .int .i16 n] :=
  ⟨[_], _, rfl, ⟨_, rfl, wf_mk8 hc⟩, [_], _, rfl, ⟨_, rfl, wf_mk8 ha⟩, [_], _, rfl, ⟨_, rfl, wf_mk8 hb⟩, [_], _, rfl, ⟨_, rfl, wf_mk8 hd⟩, [_], [], rfl, ⟨_, rfl, wf_mk16 hn⟩, rfl⟩
/-- An operation's comparison. -/
theorem eql_op {c a b d c' a' b' d' : Nat} {n n' : Int} (hc : c < 256) (ha : a < 256) (hb : b < 256) (hd : d < 256) (hn : -32768 ≤ n ∧ n ≤ 32767) (hc' : c' < 256) (ha' : a' < 256) (hb' : b' < 256) (hd' : d' < 256) (hn' : -32768 ≤ n' ∧ n' ≤ 32767) :
    ∃ e : Bool, (∀ w, (binOp .eql 24 (.agg #[.int .u8 c, .int .u8 a, .int .u8 b, .int .u8 d, .int .i16 n]) (.agg #[.int .u8 c', .int .u8 a', .int .u8 b', .int .u8 d', .int .i16 n'])).run Try.prog w = .ok (.bool e) w) ∧
      (∀ w, (binOp .neq 24 (.agg #[.int .u8 c, .int .u8 a, .int .u8 b, .int .u8 d, .int .i16 n]) (.agg #[.int .u8 c', .int .u8 a', .int .u8 b', .int .u8 d', .int .i16 n'])).run Try.prog w = .ok (.bool (!e)) w) ∧
      (e = true ↔ c = c' ∧ a = a' ∧ b = b' ∧ d = d' ∧ n = n') := by
  have key : ∀ w, ∃ e : Bool, (binOp .eql 24 (.agg #[.int .u8 c, .int .u8 a, .int .u8 b, .int .u8 d, .int .i16 n]) (.agg #[.int .u8 c', .int .u8 a', .int .u8 b', .int .u8 d', .int .i16 n'])).run Try.prog w = .ok (.bool e) w ∧
      (binOp .neq 24 (.agg #[.int .u8 c, .int .u8 a, .int .u8 b, .int .u8 d, .int .i16 n]) (.agg #[.int .u8 c', .int .u8 a', .int .u8 b', .int .u8 d', .int .i16 n'])).run Try.prog w = .ok (.bool (!e)) w ∧
      (e = true ↔ c = c' ∧ a = a' ∧ b = b' ∧ d = d' ∧ n = n') := fun w => by
    obtain ⟨e, h1, h2, h3⟩ := run_eql_agg (P := Try.prog) (w := w) (w0 := w) eqOp (by omega) (by kernel_rfl) (fits_mk_op hc ha hb hd hn) (fits_mk_op hc' ha' hb' hd' hn')
    exact ⟨e, h1, h2, h3.trans (by simp; omega)⟩
  by_cases h : c = c' ∧ a = a' ∧ b = b' ∧ d = d' ∧ n = n'
  · refine ⟨true, fun w => ?_, fun w => ?_, by simp [h]⟩
    all_goals
      obtain ⟨e, h1, h2, h3⟩ := key w
      obtain rfl := h3.2 h
      first | exact h1 | exact h2
  · have hf : ∀ e : Bool, (e = true ↔ c = c' ∧ a = a' ∧ b = b' ∧ d = d' ∧ n = n') → e = false := fun e he => by
      cases e with
      | false => rfl
      | true => exact absurd (he.1 rfl) h
    refine ⟨false, fun w => ?_, fun w => ?_, by simp; omega⟩
    all_goals
      obtain ⟨e, h1, h2, h3⟩ := key w
      obtain rfl := hf e h3
      first | exact h1 | exact h2
end Go.Proofs.Ytbjlldenokdpeaa.Walks
