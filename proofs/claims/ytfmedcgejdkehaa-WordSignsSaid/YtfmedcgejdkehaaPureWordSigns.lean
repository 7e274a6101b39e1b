/- The statement WordSigns, over numbers alone: what the program's words come to is what the document says, bit by bit. No condition beside the arguments' kinds. -/
import Derived.Test.YtfmedcgejdkehaaPWordSignsx1
import Derived.Test.YtfmedcgejdkehaaBits
namespace Go.Proofs.Ytfmedcgejdkehaa.Pure
open Go.RowKit Go.Proofs.Ytfmedcgejdkehaa.PWordSigns Go.Proofs.YtfmedcgejdkehaaW.PrintWords Go.Proofs.YtfmedcgejdkehaaW.PrintLast Go.Proofs.Ytfmedcgejdkehaa.Bits
theorem field_eq (k : Nat) {w : Nat} (hw : w < 2 ^ 64) (a n : Int) : word_Field.f (k + 1) (w : Int) a n = some ((fld w a n : Nat) : Int) := by
  have hu : IntKind.u64.signed = false := rfl
  have ht : word_Field.j0 (k + 1) (w : Int) a n true = some 0 := by simp [word_Field.j0]
  unfold word_Field.f fld
  by_cases h1 : a < 0
  · rw [if_pos h1, if_pos (Or.inl h1), ht]; rfl
  · by_cases h2 : a > 63
    · rw [if_neg h1, if_pos h2, if_pos (Or.inr (Or.inl h2)), ht]; rfl
    · by_cases h3 : n ≤ 0
      · rw [if_neg h1, if_neg h2, if_pos (Or.inr (Or.inr h3)), decide_eq_true h3, ht]; rfl
      · rw [if_neg h1, if_neg h2, if_neg (by omega), decide_eq_false h3]
        simp only [word_Field.j0]
        rw [if_neg (by simp), if_pos (by omega)]
        obtain ⟨a, rfl⟩ := Int.eq_ofNat_of_zero_le (show 0 ≤ a by omega)
        obtain ⟨n, rfl⟩ := Int.eq_ofNat_of_zero_le (show 0 ≤ n by omega)
        rw [shr_nat hw, Int.toNat_natCast, Int.toNat_natCast]
        have hd : w / 2 ^ a < 2 ^ 64 := Nat.lt_of_le_of_lt (Nat.div_le_self _ _) hw
        by_cases h4 : n < 64
        · rw [if_pos (by omega), if_pos (by omega)]
          have e1 := shl_one h4
          have hp := pow_pos n
          have e2 : ((2 ^ n : Nat) : Int) - 1 = ((2 ^ n - 1 : Nat) : Int) := by omega
          have h5 : 2 ^ n - 1 < 2 ^ 64 := Nat.lt_of_le_of_lt (Nat.sub_le _ _) (Nat.pow_lt_pow_right (by omega) h4)
          rw [e1, e2, wrap_lt hu h5, bits_and hu hd h5, Nat.and_two_pow_sub_one_eq_mod]
        · rw [if_neg (by omega), Nat.mod_eq_of_lt]
          exact Nat.lt_of_lt_of_le hd (Nat.pow_le_pow_right (by omega) (by omega))
theorem bit_eq {w : Nat} (hw : w < 2 ^ 64) {i : Nat} (hi : i < 64) : hermitcrabref01_Bit.f (w : Int) (i : Int) = some (((w.testBit i).toNat : Nat) : Int) := by
  unfold hermitcrabref01_Bit.f
  rw [if_neg (by omega), if_neg (by omega), if_pos (by omega), shr_nat hw]
  congr 1
  show ((w / 2 ^ i % 2 : Nat) : Int) = _
  congr 1
  rw [Nat.testBit_eq_decide_div_mod_eq]
  rcases Nat.mod_two_eq_zero_or_one (w / 2 ^ i) with h | h <;> simp [h]
/-- One step of a word that is made bit by bit. -/
theorem step_wrap {o i : Nat} (hi : i < 64) (ho : o < 2 ^ (63 - i)) (b : Bool) :
    IntKind.u64.wrap (IntKind.u64.wrap (2 * (o : Int)) + ((b.toNat : Nat) : Int)) = ((2 * o + b.toNat : Nat) : Int) ∧ 2 * o + b.toNat < 2 ^ (64 - i) := by
  have hb : b.toNat ≤ 1 := by cases b <;> simp
  have h1 : 2 * o + b.toNat < 2 ^ (64 - i) := by
    have : 2 ^ (64 - i) = 2 * 2 ^ (63 - i) := by rw [← Nat.pow_succ']; congr 1; omega
    omega
  have h2 : 2 ^ (64 - i) ≤ 2 ^ 64 := Nat.pow_le_pow_right (by omega) (by omega)
  have h3 : 2 * o < 18446744073709551616 := by
    have : (2 : Nat) ^ 64 = 18446744073709551616 := rfl
    omega
  have h4 : 2 * o + b.toNat < 18446744073709551616 := by
    have : (2 : Nat) ^ 64 = 18446744073709551616 := rfl
    omega
  refine ⟨?_, h1⟩
  rw [wrap_u64, wrap_u64]
  omega
theorem awake_true (k : Nat) : hermitcrablaw01_awake.f (k + 1) = some true := by
  unfold hermitcrablaw01_awake.f
  have := field_eq k (w := 240) (by decide) 4 4
  rw [show ((240 : Nat) : Int) = 240 from rfl] at this
  rw [this]
  simp only [Option.bind_some]
  rw [if_pos (by decide)]
  decide +kernel
theorem sign_bits {v n : Nat} (h1 : 1 ≤ n) (h2 : n ≤ 64) :
    ∃ r : Nat, IntKind.u64.wrap (shr .i64 (wrap64 (shl .u64 (v : Int) ((64 - n : Nat) : Int))) ((64 - n : Nat) : Int)) = (r : Int) ∧ r < 2 ^ 64 ∧ ∀ i, r.testBit i = (decide (i < 64) && v.testBit (min i (n - 1))) := by
  have hj : 64 - n < 64 := by omega
  generalize hjn : 64 - n = j at hj ⊢
  have hx : (v * 2 ^ j) % 2 ^ 64 < 2 ^ 64 := Nat.mod_lt _ (pow_pos 64)
  have hxb : ∀ i, ((v * 2 ^ j) % 2 ^ 64).testBit i = (decide (i < 64) && (decide (j ≤ i) && v.testBit (i - j))) := fun i => by
    rw [Nat.testBit_mod_two_pow, testBit_mul_pow]
  have hpj := pow_pos j
  have hsh : ∀ y : Int, shr .i64 y (j : Int) = y / ((2 ^ j : Nat) : Int) := fun y => by
    unfold shr
    rw [Int.toNat_natCast, Nat.min_eq_left (show j ≤ IntKind.i64.bits from Nat.le_of_lt hj)]; simp
  rw [shl_u64, hsh]
  generalize (v * 2 ^ j) % 2 ^ 64 = x at hx hxb ⊢
  have hd : x / 2 ^ j < 2 ^ (64 - j) := by
    rw [Nat.div_lt_iff_lt_mul hpj, ← Nat.pow_add, show 64 - j + j = 64 by omega]; exact hx
  have hdb : ∀ i, (x / 2 ^ j).testBit i = (decide (i < n) && v.testBit i) := fun i => by
    rw [testBit_div_pow, hxb, Nat.add_sub_cancel, decide_eq_true (show j ≤ i + j by omega), Bool.true_and]
    congr 1
    rw [decide_eq_decide]; omega
  by_cases hs : x < 2 ^ 63
  · have hw : wrap64 (x : Int) = ((x : Nat) : Int) := wrap64_in (by omega) (by omega)
    have ht : v.testBit (n - 1) = false := by
      have := hxb 63
      rw [testBit_ge hs (by omega)] at this
      simpa [show j ≤ 63 by omega, show 63 - j = n - 1 by omega] using this.symm
    refine ⟨x / 2 ^ j, ?_, Nat.lt_of_le_of_lt (Nat.div_le_self _ _) hx, fun i => ?_⟩
    · rw [hw]
      have := wrap_lt (k := .u64) rfl (Nat.lt_of_le_of_lt (Nat.div_le_self x (2 ^ j)) hx)
      exact this
    · rw [hdb]
      by_cases hi : i < n
      · rw [Nat.min_eq_left (by omega), decide_eq_true hi, decide_eq_true (show i < 64 by omega)]
      · rw [Nat.min_eq_right (by omega), ht, decide_eq_false hi, Bool.and_false, Bool.false_and]
  · have hw : wrap64 (x : Int) = (x : Int) - ((2 ^ (64 - j) * 2 ^ j : Nat) : Int) := by
      rw [← Nat.pow_add, show 64 - j + j = 64 by omega]
      unfold wrap64; omega
    have ht : v.testBit (n - 1) = true := by
      have h63 := hxb 63
      have : x.testBit 63 = true := by
        rw [Nat.testBit_eq_decide_div_mod_eq]
        have : x / 2 ^ 63 = 1 := by omega
        rw [this]; rfl
      rw [this] at h63
      simpa [show j ≤ 63 by omega, show 63 - j = n - 1 by omega] using h63.symm
    have hn64 : n = 64 - j := by omega
    have hq : 2 ^ 64 = 2 ^ n * 2 ^ j := by rw [← Nat.pow_add, hn64, show 64 - j + j = 64 by omega]
    rw [hn64.symm] at hw hd
    have hpn := pow_pos n
    have hr : 2 ^ n * (2 ^ j - 1) + x / 2 ^ j < 2 ^ 64 := by
      rw [hq, Nat.mul_sub, Nat.mul_one]
      have : 2 ^ n ≤ 2 ^ n * 2 ^ j := Nat.le_mul_of_pos_right _ hpj
      omega
    refine ⟨2 ^ n * (2 ^ j - 1) + x / 2 ^ j, ?_, hr, fun i => ?_⟩
    · rw [hw, wrap_u64]
      have e1 : ((x : Int) - ((2 ^ n * 2 ^ j : Nat) : Int)) / ((2 ^ j : Nat) : Int) = ((x / 2 ^ j : Nat) : Int) - ((2 ^ n : Nat) : Int) := by
        have hz : ((2 ^ j : Nat) : Int) ≠ 0 := by omega
        have e := Int.add_mul_ediv_right (x : Int) (-((2 ^ n : Nat) : Int)) hz
        rw [Int.neg_mul, Int.add_neg_eq_sub, Int.add_neg_eq_sub, ← Int.natCast_mul] at e
        exact e
      rw [e1]
      have hle : 2 ^ n ≤ 2 ^ 64 := Nat.pow_le_pow_right (by omega) h2
      have e2 : 2 ^ n * (2 ^ j - 1) = 18446744073709551616 - 2 ^ n := by rw [Nat.mul_sub, Nat.mul_one, ← hq]
      have hd' := hd
      rw [e2] at hr ⊢
      generalize x / 2 ^ j = y at *
      generalize 2 ^ n = z at *
      clear hw e1 hdb hxb hsh
      omega
    · have hlt : x / 2 ^ j < 2 ^ n := hd
      rw [Nat.testBit_two_pow_mul_add _ hlt, hdb, Nat.testBit_two_pow_sub_one]
      by_cases hi : i < n
      · rw [if_pos hi, Nat.min_eq_left (by omega), decide_eq_true hi, decide_eq_true (show i < 64 by omega)]
      · rw [if_neg hi, Nat.min_eq_right (by omega), ht, Bool.and_true, decide_eq_decide]; omega
theorem sign_eq (v : Nat) (n : Int) : ∃ r : Nat, word_Sign.f (v : Int) n = some (r : Int) ∧ r < 2 ^ 64 ∧ (¬ (n < 1 ∨ n > 64) → ∀ i, r.testBit i = (decide (i < 64) && v.testBit (min i (n.toNat - 1)))) ∧ ((n < 1 ∨ n > 64) → r = 0) := by
  unfold word_Sign.f
  by_cases h1 : n < 1
  · exact ⟨0, by rw [if_pos h1]; rfl, by decide, fun h => absurd (Or.inl h1) h, fun _ => rfl⟩
  · by_cases h2 : n > 64
    · exact ⟨0, by rw [if_neg h1, if_pos h2]; rfl, by decide, fun h => absurd (Or.inr h2) h, fun _ => rfl⟩
    · obtain ⟨n, rfl⟩ := Int.eq_ofNat_of_zero_le (show 0 ≤ n by omega)
      obtain ⟨r, e, hr, hb⟩ := sign_bits (v := v) (n := n) (by omega) (by omega)
      have e0 : wrap64 (64 - (n : Int)) = ((64 - n : Nat) : Int) := by rw [wrap64_in (by omega) (by omega)]; omega
      refine ⟨r, ?_, hr, fun _ => by rw [Int.toNat_natCast]; exact hb, fun h => by omega⟩
      rw [if_neg h1, if_neg h2, e0, if_pos (by omega), e]
theorem refSign_loop {v : Nat} (hv : v < 2 ^ 64) {n : Nat} (h1 : 1 ≤ n) (h2 : n ≤ 64) (r : Nat) (hbits : ∀ i, r.testBit i = (decide (i < 64) && v.testBit (min i (n - 1)))) (d : Nat) :
    ∀ (k o : Nat), d ≤ 64 → d < k → o < 2 ^ (64 - d) → (∀ t, o.testBit t = r.testBit (t + d)) → hermitcrabref01_Sign.l0 k (v : Int) (n : Int) (o : Int) ((d : Int) - 1) = some (r : Int) := by
  induction d with
  | zero =>
    intro k o _ hk _ ht
    obtain ⟨k, rfl⟩ : ∃ m, k = m + 1 := ⟨k - 1, by omega⟩
    simp only [hermitcrabref01_Sign.l0]
    rw [if_neg (by omega)]
    congr 2
    exact Nat.eq_of_testBit_eq fun i => by rw [ht i, Nat.add_zero]
  | succ d ih =>
    intro k o hd hk ho ht
    obtain ⟨k, rfl⟩ : ∃ m, k = m + 1 := ⟨k - 1, by omega⟩
    have h0 : ((d + 1 : Nat) : Int) - 1 ≥ 0 := by omega
    have e0 : ((d + 1 : Nat) : Int) - 1 = (d : Int) := by omega
    have ho' : o < 2 ^ (63 - d) := by rw [show 63 - d = 64 - (d + 1) by omega]; exact ho
    have hb := hbits d
    rw [decide_eq_true (show d < 64 by omega), Bool.true_and] at hb
    have e1 : wrap64 ((d : Int) - 1) = (d : Int) - 1 := wrap64_in (by omega) (by omega)
    have e2 : wrap64 ((n : Int) - 1) = ((n - 1 : Nat) : Int) := by rw [wrap64_in (by omega) (by omega)]; omega
    simp only [hermitcrabref01_Sign.l0]
    rw [if_pos h0, e0, e1, e2]
    clear e1 e2
    have go : ∀ b : Bool, r.testBit d = b → hermitcrabref01_Sign.l0 k (v : Int) (n : Int) (IntKind.u64.wrap (IntKind.u64.wrap (2 * (o : Int)) + ((b.toNat : Nat) : Int))) ((d : Int) - 1) = some (r : Int) := by
      intro b hb
      obtain ⟨e4, h4⟩ := step_wrap (i := d) (by omega) ho' b
      rw [e4]
      refine ih k _ (by omega) (by omega) h4 (fun t => ?_)
      rw [testBit_bit]
      cases t with
      | zero => rw [if_pos rfl, Nat.zero_add, hb]
      | succ t => rw [if_neg (by omega), Nat.add_sub_cancel, ht t]; congr 1; omega
    by_cases h3 : (d : Int) > ((n - 1 : Nat) : Int)
    · rw [if_pos h3, bit_eq hv (by omega)]
      simp only [Option.bind_some]
      exact go _ (by rw [hb, Nat.min_eq_right (by omega)])
    · rw [if_neg h3, bit_eq hv (by omega)]
      simp only [Option.bind_some]
      exact go _ (by rw [hb, Nat.min_eq_left (by omega)])
theorem refSign_eq {k : Nat} (hk : 66 ≤ k) {v : Nat} (hv : v < 2 ^ 64) (n : Int) {r : Nat} (hb : ¬ (n < 1 ∨ n > 64) → ∀ i, r.testBit i = (decide (i < 64) && v.testBit (min i (n.toNat - 1)))) (h0 : (n < 1 ∨ n > 64) → r = 0) :
    hermitcrabref01_Sign.f k (v : Int) n = some (r : Int) := by
  obtain ⟨k, rfl⟩ : ∃ m, k = m + 1 := ⟨k - 1, by omega⟩
  have ht : hermitcrabref01_Sign.j0 (k + 1) (v : Int) n true = some 0 := by simp [hermitcrabref01_Sign.j0]
  unfold hermitcrabref01_Sign.f
  by_cases h1 : n < 1
  · rw [if_pos h1, ht, h0 (Or.inl h1)]; rfl
  · by_cases h2 : n > 64
    · rw [if_neg h1, decide_eq_true h2, ht, h0 (Or.inr h2)]; rfl
    · rw [if_neg h1, decide_eq_false h2]
      have hb := hb (by omega)
      obtain ⟨n, rfl⟩ := Int.eq_ofNat_of_zero_le (show 0 ≤ n by omega)
      rw [Int.toNat_natCast] at hb
      simp only [hermitcrabref01_Sign.j0]
      rw [if_neg (by simp)]
      exact refSign_loop hv (n := n) (by omega) (by omega) r hb 64 k 0 (by omega) (by omega) (by decide)
          (fun t => by rw [Nat.zero_testBit, hb, decide_eq_false (by omega), Bool.false_and])
theorem WordSigns : hermitcrablaw01_WordSigns.Pure := by
  intro a0 n w0 w1
  obtain ⟨v, rfl, hv⟩ := wf_u64 w0
  refine ⟨66, ?_⟩
  unfold hermitcrablaw01_WordSigns.f
  rw [awake_true]; simp only [Option.bind_some, if_true]
  obtain ⟨r, e, _, hb, h0⟩ := sign_eq v n
  rw [e, refSign_eq (by omega) hv n hb h0]; simp only [Option.bind_some, if_true]
  obtain ⟨r', e', _, hb', _⟩ := sign_eq v 64
  rw [e']
  have : r' = v := Nat.eq_of_testBit_eq fun i => by
    rw [hb' (by omega) i]
    by_cases hi : i < 64
    · rw [decide_eq_true hi, Bool.true_and, Nat.min_eq_left (by omega)]
    · rw [decide_eq_false hi, Bool.false_and, testBit_ge hv (by omega)]
  rw [this]; simp
end Go.Proofs.Ytfmedcgejdkehaa.Pure
