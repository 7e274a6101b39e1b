/- Words as natural numbers, bit by bit: what the program's words over whole numbers come to. -/
import Derived.RowKit
import Derived.Laws.Entries
namespace Go.Proofs.Ytpimjioamoaejaa.Bits
open Go Go.RowKit

/-- m without n's bits. -/
def andn (m n : Nat) : Nat := m ^^^ (m &&& n)
theorem testBit_andn (m n i : Nat) : (andn m n).testBit i = (m.testBit i && !n.testBit i) := by
  unfold andn
  rw [Nat.testBit_xor, Nat.testBit_and]
  cases m.testBit i <;> cases n.testBit i <;> rfl

theorem wrap_u64 (n : Int) : IntKind.u64.wrap n = n % 18446744073709551616 := by
  simp [IntKind.wrap, IntKind.signed, IntKind.bits]
theorem wrap_u32 (n : Int) : IntKind.u32.wrap n = n % 4294967296 := by
  simp [IntKind.wrap, IntKind.signed, IntKind.bits]
theorem wrap_nat {k : IntKind} (hk : k.signed = false) (n : Nat) : k.wrap (n : Int) = ((n % 2 ^ k.bits : Nat) : Int) := by
  simp [IntKind.wrap, hk]
theorem wrap_lt {k : IntKind} (hk : k.signed = false) {n : Nat} (h : n < 2 ^ k.bits) : k.wrap (n : Int) = (n : Int) := by
  rw [wrap_nat hk, Nat.mod_eq_of_lt h]

theorem wf_nat {k : IntKind} (hk : k.signed = false) {a : Int} (h : (Lit.int k a).wf = true) : ∃ n : Nat, a = (n : Int) ∧ n < 2 ^ k.bits := by
  have h1 : 0 ≤ a ∧ a ≤ 2 ^ k.bits - 1 := by
    simpa [Lit.wf, IntKind.min, IntKind.max, hk] using h
  have h2 : ((2 ^ k.bits : Nat) : Int) = 2 ^ k.bits := by simp
  exact ⟨a.toNat, by omega, by omega⟩
theorem wf_u64 {a : Int} (h : (Lit.int .u64 a).wf = true) : ∃ n : Nat, a = (n : Int) ∧ n < 2 ^ 64 := wf_nat rfl h
theorem wf_u32 {a : Int} (h : (Lit.int .u32 a).wf = true) : ∃ n : Nat, a = (n : Int) ∧ n < 2 ^ 32 := wf_nat rfl h
theorem wf_u8 {a : Int} (h : (Lit.int .u8 a).wf = true) : ∃ n : Nat, a = (n : Int) ∧ n < 256 := wf_nat rfl h
theorem wf_i64 {a : Int} (h : (Lit.int .i64 a).wf = true) : -9223372036854775808 ≤ a ∧ a ≤ 9223372036854775807 := by
  simpa [Lit.wf, IntKind.min, IntKind.max, IntKind.signed, IntKind.bits] using h

theorem ofInt_nat {b n : Nat} (h : n < 2 ^ b) : (BitVec.ofInt b (n : Int)).toNat = n := by
  rw [BitVec.toNat_ofInt]
  have : ((n : Int) % ((2 ^ b : Nat) : Int)) = ((n % 2 ^ b : Nat) : Int) := rfl
  rw [this, Int.toNat_natCast, Nat.mod_eq_of_lt h]

theorem bits_and {k : IntKind} (hk : k.signed = false) {m n : Nat} (hm : m < 2 ^ k.bits) (hn : n < 2 ^ k.bits) : Go.bits .and k (m : Int) (n : Int) = ((m &&& n : Nat) : Int) := by
  unfold Go.bits
  simp only [BitVec.toNat_and, ofInt_nat hm, ofInt_nat hn]
  exact wrap_lt hk (Nat.and_lt_two_pow _ hn)
theorem bits_or {k : IntKind} (hk : k.signed = false) {m n : Nat} (hm : m < 2 ^ k.bits) (hn : n < 2 ^ k.bits) : Go.bits .or k (m : Int) (n : Int) = ((m ||| n : Nat) : Int) := by
  unfold Go.bits
  simp only [BitVec.toNat_or, ofInt_nat hm, ofInt_nat hn]
  exact wrap_lt hk (Nat.or_lt_two_pow hm hn)
theorem bits_xor {k : IntKind} (hk : k.signed = false) {m n : Nat} (hm : m < 2 ^ k.bits) (hn : n < 2 ^ k.bits) : Go.bits .xor k (m : Int) (n : Int) = ((m ^^^ n : Nat) : Int) := by
  unfold Go.bits
  simp only [BitVec.toNat_xor, ofInt_nat hm, ofInt_nat hn]
  exact wrap_lt hk (Nat.xor_lt_two_pow hm hn)
theorem andn_lt {b m n : Nat} (hm : m < 2 ^ b) (hn : n < 2 ^ b) : andn m n < 2 ^ b := Nat.xor_lt_two_pow hm (Nat.and_lt_two_pow _ hn)
theorem bits_andNot {k : IntKind} (hk : k.signed = false) {m n : Nat} (hm : m < 2 ^ k.bits) (hn : n < 2 ^ k.bits) : Go.bits .andNot k (m : Int) (n : Int) = ((andn m n : Nat) : Int) := by
  unfold Go.bits
  have : (BitVec.ofInt k.bits (m : Int) &&& ~~~ BitVec.ofInt k.bits (n : Int)).toNat = andn m n := by
    apply Nat.eq_of_testBit_eq
    intro i
    rw [testBit_andn, BitVec.testBit_toNat, BitVec.getLsbD_and, BitVec.getLsbD_not, ← BitVec.testBit_toNat, ← BitVec.testBit_toNat, ofInt_nat hm, ofInt_nat hn]
    by_cases hi : i < k.bits
    · simp [hi]
    · have h0 : m.testBit i = false := Nat.testBit_lt_two_pow (Nat.lt_of_lt_of_le hm (Nat.pow_le_pow_right (by omega) (by omega)))
      simp [h0]
  simp only [this]
  exact wrap_lt hk (andn_lt hm hn)

theorem testBit_mul_pow (m j i : Nat) : (m * 2 ^ j).testBit i = (decide (j ≤ i) && m.testBit (i - j)) := by
  rw [← Nat.shiftLeft_eq, Nat.testBit_shiftLeft]
theorem testBit_div_pow (m j i : Nat) : (m / 2 ^ j).testBit i = m.testBit (i + j) := by
  rw [← Nat.shiftRight_eq_div_pow, Nat.testBit_shiftRight, Nat.add_comm]
theorem testBit_ge {m b i : Nat} (h : m < 2 ^ b) (hi : b ≤ i) : m.testBit i = false :=
  Nat.testBit_lt_two_pow (Nat.lt_of_lt_of_le h (Nat.pow_le_pow_right (by omega) hi))

/-- One bit more below. -/
theorem testBit_bit (o : Nat) (b : Bool) (i : Nat) : (2 * o + b.toNat).testBit i = (if i = 0 then b else o.testBit (i - 1)) := by
  cases i with
  | zero =>
    cases b <;> simp [Nat.testBit_zero] <;> omega
  | succ i =>
    rw [Nat.testBit_succ]
    have : (2 * o + b.toNat) / 2 = o := by cases b <;> simp <;> omega
    rw [this]; simp

theorem wrap64_in {n : Int} (h0 : -9223372036854775808 ≤ n) (h1 : n < 9223372036854775808) : wrap64 n = n := by
  unfold wrap64; omega
theorem tmod_nat (m n : Nat) : Int.tmod (m : Int) (n : Int) = ((m % n : Nat) : Int) := rfl
theorem tdiv_nat (m n : Nat) : Int.tdiv (m : Int) (n : Int) = ((m / n : Nat) : Int) := rfl

/-- Some bits of a word; others in their place. -/
def fld (w : Nat) (a n : Int) : Nat := if a < 0 ∨ a > 63 ∨ n ≤ 0 then 0 else (w / 2 ^ a.toNat) % 2 ^ n.toNat
def wth (w : Nat) (a n : Int) (v : Nat) : Nat :=
  if a < 0 ∨ a > 63 ∨ n ≤ 0 then w else
    let m := 2 ^ (min n 64).toNat - 1
    andn w (m * 2 ^ a.toNat % 2 ^ 64) ||| ((v &&& m) * 2 ^ a.toNat % 2 ^ 64)
theorem pow_pos (n : Nat) : 0 < 2 ^ n := Nat.pow_pos (by omega)
theorem fld_le (w : Nat) (a n : Int) : fld w a n ≤ w := by
  unfold fld
  split
  · omega
  · exact Nat.le_trans (Nat.mod_le _ _) (Nat.div_le_self _ _)
theorem wth_lt {w : Nat} (hw : w < 2 ^ 64) (a n : Int) (v : Nat) : wth w a n v < 2 ^ 64 := by
  unfold wth
  split
  · exact hw
  · exact Nat.or_lt_two_pow (andn_lt hw (Nat.mod_lt _ (pow_pos 64))) (Nat.mod_lt _ (pow_pos 64))
/-- Bit by bit. -/
theorem testBit_fld (w : Nat) {a n : Int} (h : ¬ (a < 0 ∨ a > 63 ∨ n ≤ 0)) (i : Nat) : (fld w a n).testBit i = (decide ((i : Int) < n) && w.testBit (i + a.toNat)) := by
  unfold fld
  rw [if_neg h, Nat.testBit_mod_two_pow, testBit_div_pow]
  congr 1
  rw [decide_eq_decide]; omega
theorem testBit_wth {w : Nat} (hw : w < 2 ^ 64) {a n : Int} (v : Nat) (h : ¬ (a < 0 ∨ a > 63 ∨ n ≤ 0)) (i : Nat) :
    (wth w a n v).testBit i = (decide (i < 64) && if a ≤ i ∧ (i : Int) - a < n then v.testBit (i - a.toNat) else w.testBit i) := by
  unfold wth
  rw [if_neg h, Nat.testBit_or, testBit_andn, Nat.testBit_mod_two_pow, Nat.testBit_mod_two_pow, testBit_mul_pow, testBit_mul_pow, Nat.testBit_and, Nat.testBit_two_pow_sub_one]
  by_cases hi : i < 64
  · simp only [hi, decide_true, Bool.true_and]
    by_cases h1 : a ≤ i ∧ (i : Int) - a < n
    · have h2 : a.toNat ≤ i := by omega
      have h3 : i - a.toNat < (min n 64).toNat := by omega
      simp [h1, h2, h3]
    · rw [if_neg h1]
      by_cases h2 : a.toNat ≤ i
      · have h3 : ¬ i - a.toNat < (min n 64).toNat := by omega
        simp [h3]
      · simp [h2]
  · have h0 : w.testBit i = false := testBit_ge hw (by omega)
    simp [hi, h0]
end Go.Proofs.Ytpimjioamoaejaa.Bits
