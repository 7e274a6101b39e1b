/- The statement WordFields, over numbers alone: what the program's words come to is what the document says, bit by bit. No condition beside the arguments' kinds. -/
import Derived.Test.YtfmedcgejdkehaaPWordFieldsx2
import Derived.Test.YtfmedcgejdkehaaBits
namespace Go.Proofs.Ytfmedcgejdkehaa.Pure
open Go.RowKit Go.Proofs.Ytfmedcgejdkehaa.PWordFields Go.Proofs.YtfmedcgejdkehaaW.PrintWords Go.Proofs.YtfmedcgejdkehaaW.PrintLast Go.Proofs.Ytfmedcgejdkehaa.Bits
theorem field_eq (k : Nat) {w : Nat} (hw : w < 2 ^ 64) (a n : Int) : word_Field.f (k + 1) (w : Int) a n = some ((fld w a n : Nat) : Int) := by
  have hu : IntKind.u64.signed = false := rfl
  have ht : word_Field.j0 (k + 1) (w : Int) a n true = some 0 := by simp [word_Field.j0]
  unfold word_Field.f fld
  by_cases h1 : a < 0
  · rw [if_pos h1, if_pos (Or.inl h1), ht]; rfl
  · by_cases h2 : a > 63
    · rw [if_neg h1, if_pos h2, if_pos (Or.inr (Or.inl h2)), ht]; rfl
    · by_cases h3 : n ≤ 0
      · rw [if_neg h1, if_neg h2, if_pos (Or.inr (Or.inr h3)), decide_eq_true h3, ht]; rfl
      · rw [if_neg h1, if_neg h2, if_neg (by omega), decide_eq_false h3]
        simp only [word_Field.j0]
        rw [if_neg (by simp), if_pos (by omega)]
        obtain ⟨a, rfl⟩ := Int.eq_ofNat_of_zero_le (show 0 ≤ a by omega)
        obtain ⟨n, rfl⟩ := Int.eq_ofNat_of_zero_le (show 0 ≤ n by omega)
        rw [shr_nat hw, Int.toNat_natCast, Int.toNat_natCast]
        have hd : w / 2 ^ a < 2 ^ 64 := Nat.lt_of_le_of_lt (Nat.div_le_self _ _) hw
        by_cases h4 : n < 64
        · rw [if_pos (by omega), if_pos (by omega)]
          have e1 := shl_one h4
          have hp := pow_pos n
          have e2 : ((2 ^ n : Nat) : Int) - 1 = ((2 ^ n - 1 : Nat) : Int) := by omega
          have h5 : 2 ^ n - 1 < 2 ^ 64 := Nat.lt_of_le_of_lt (Nat.sub_le _ _) (Nat.pow_lt_pow_right (by omega) h4)
          rw [e1, e2, wrap_lt hu h5, bits_and hu hd h5, Nat.and_two_pow_sub_one_eq_mod]
        · rw [if_neg (by omega), Nat.mod_eq_of_lt]
          exact Nat.lt_of_lt_of_le hd (Nat.pow_le_pow_right (by omega) (by omega))
theorem with_eq (k : Nat) {w v : Nat} (hw : w < 2 ^ 64) (hv : v < 2 ^ 64) (a n : Int) : word_With.f (k + 1) (w : Int) a n (v : Int) = some ((wth w a n v : Nat) : Int) := by
  have hu : IntKind.u64.signed = false := rfl
  have ht : word_With.j0 (k + 1) (w : Int) a n (v : Int) true = some (w : Int) := by simp [word_With.j0]
  unfold word_With.f wth
  by_cases h1 : a < 0
  · rw [if_pos h1, if_pos (Or.inl h1), ht]
  · by_cases h2 : a > 63
    · rw [if_neg h1, if_pos h2, if_pos (Or.inr (Or.inl h2)), ht]
    · by_cases h3 : n ≤ 0
      · rw [if_neg h1, if_neg h2, if_pos (Or.inr (Or.inr h3)), decide_eq_true h3, ht]
      · rw [if_neg h1, if_neg h2, if_neg (by omega), decide_eq_false h3]
        simp only [word_With.j0]
        rw [if_neg (by simp)]
        obtain ⟨a, rfl⟩ := Int.eq_ofNat_of_zero_le (show 0 ≤ a by omega)
        obtain ⟨n, rfl⟩ := Int.eq_ofNat_of_zero_le (show 0 ≤ n by omega)
        have h0 : (0 : Int) ≤ (a : Int) := by omega
        have hm64 : ∀ x, x % 2 ^ 64 < 2 ^ 64 := fun x => Nat.mod_lt _ (pow_pos 64)
        by_cases h4 : n < 64
        · rw [if_pos (by omega), if_pos (by omega), if_pos h0]
          have e1 := shl_one h4
          have hp := pow_pos n
          have e2 : ((2 ^ n : Nat) : Int) - 1 = ((2 ^ n - 1 : Nat) : Int) := by omega
          have h5 : 2 ^ n - 1 < 2 ^ 64 := Nat.lt_of_le_of_lt (Nat.sub_le _ _) (Nat.pow_lt_pow_right (by omega) h4)
          have e3 : (min (n : Int) 64).toNat = n := by omega
          rw [e1, e2, wrap_lt hu h5, bits_and hu hv h5, shl_u64, shl_u64, bits_andNot hu hw (hm64 _), bits_or hu (andn_lt hw (hm64 _)) (hm64 _), e3, Int.toNat_natCast]
        · rw [if_neg (by omega), if_pos h0]
          have e3 : (min (n : Int) 64).toNat = 64 := by omega
          have e4 : (18446744073709551615 : Int) = ((2 ^ 64 - 1 : Nat) : Int) := rfl
          have h5 : 2 ^ 64 - 1 < 2 ^ 64 := by decide
          rw [e4, bits_and hu hv h5, shl_u64, shl_u64, bits_andNot hu hw (hm64 _), bits_or hu (andn_lt hw (hm64 _)) (hm64 _), e3, Int.toNat_natCast]
theorem bit_eq {w : Nat} (hw : w < 2 ^ 64) {i : Nat} (hi : i < 64) : hermitcrabref01_Bit.f (w : Int) (i : Int) = some (((w.testBit i).toNat : Nat) : Int) := by
  unfold hermitcrabref01_Bit.f
  rw [if_neg (by omega), if_neg (by omega), if_pos (by omega), shr_nat hw]
  congr 1
  show ((w / 2 ^ i % 2 : Nat) : Int) = _
  congr 1
  rw [Nat.testBit_eq_decide_div_mod_eq]
  rcases Nat.mod_two_eq_zero_or_one (w / 2 ^ i) with h | h <;> simp [h]
/-- One step of a word that is made bit by bit. -/
theorem step_wrap {o i : Nat} (hi : i < 64) (ho : o < 2 ^ (63 - i)) (b : Bool) :
    IntKind.u64.wrap (IntKind.u64.wrap (2 * (o : Int)) + ((b.toNat : Nat) : Int)) = ((2 * o + b.toNat : Nat) : Int) ∧ 2 * o + b.toNat < 2 ^ (64 - i) := by
  have hb : b.toNat ≤ 1 := by cases b <;> simp
  have h1 : 2 * o + b.toNat < 2 ^ (64 - i) := by
    have : 2 ^ (64 - i) = 2 * 2 ^ (63 - i) := by rw [← Nat.pow_succ']; congr 1; omega
    omega
  have h2 : 2 ^ (64 - i) ≤ 2 ^ 64 := Nat.pow_le_pow_right (by omega) (by omega)
  have h3 : 2 * o < 18446744073709551616 := by
    have : (2 : Nat) ^ 64 = 18446744073709551616 := rfl
    omega
  have h4 : 2 * o + b.toNat < 18446744073709551616 := by
    have : (2 : Nat) ^ 64 = 18446744073709551616 := rfl
    omega
  refine ⟨?_, h1⟩
  rw [wrap_u64, wrap_u64]
  omega
theorem refField_loop {w : Nat} (hw : w < 2 ^ 64) {a : Nat} (ha : a < 64) {n : Int} (r : Nat) (hbits : ∀ i, r.testBit i = (decide ((i : Int) < n) && w.testBit (i + a))) (d : Nat) :
    ∀ (k o : Nat), d ≤ 64 → d < k → o < 2 ^ (64 - d) → (∀ t, o.testBit t = r.testBit (t + d)) → hermitcrabref01_Field.l0 k (w : Int) (a : Int) n (o : Int) ((d : Int) - 1) = some (r : Int) := by
  induction d with
  | zero =>
    intro k o _ hk _ ht
    obtain ⟨k, rfl⟩ : ∃ m, k = m + 1 := ⟨k - 1, by omega⟩
    simp only [hermitcrabref01_Field.l0]
    rw [if_neg (by omega)]
    congr 2
    exact Nat.eq_of_testBit_eq fun i => by rw [ht i, Nat.add_zero]
  | succ d ih =>
    intro k o hd hk ho ht
    obtain ⟨k, rfl⟩ : ∃ m, k = m + 1 := ⟨k - 1, by omega⟩
    have h0 : ((d + 1 : Nat) : Int) - 1 ≥ 0 := by omega
    have e0 : ((d + 1 : Nat) : Int) - 1 = (d : Int) := by omega
    have e1 : wrap64 ((d : Int) - 1) = (d : Int) - 1 := wrap64_in (by omega) (by omega)
    have e2 : wrap64 (63 - (a : Int)) = 63 - (a : Int) := wrap64_in (by omega) (by omega)
    have e3 : wrap64 ((a : Int) + (d : Int)) = ((a + d : Nat) : Int) := by rw [wrap64_in (by omega) (by omega)]; omega
    simp only [hermitcrabref01_Field.l0]
    rw [if_pos h0, e0, e1, e2, e3]
    clear e1 e2 e3
    have skip : r.testBit d = false → o = 0 → hermitcrabref01_Field.l0 k (w : Int) (a : Int) n (o : Int) ((d : Int) - 1) = some (r : Int) := by
      rintro h0 rfl
      refine ih k 0 (by omega) (by omega) (pow_pos _) (fun t => ?_)
      rw [Nat.zero_testBit]
      cases t with
      | zero => rw [Nat.zero_add]; exact h0.symm
      | succ t => have := ht t; rw [Nat.zero_testBit] at this; rw [this]; congr 1; omega
    by_cases h1 : (d : Int) < n
    · rw [if_pos h1]
      by_cases h2 : (d : Int) ≤ 63 - (a : Int)
      · rw [if_pos h2, bit_eq hw (by omega)]
        simp only [Option.bind_some]
        have ho' : o < 2 ^ (63 - d) := by rw [show 63 - d = 64 - (d + 1) by omega]; exact ho
        obtain ⟨e4, h4⟩ := step_wrap (i := d) (by omega) ho' (w.testBit (a + d))
        rw [e4]
        refine ih k _ (by omega) (by omega) h4 (fun t => ?_)
        rw [testBit_bit]
        cases t with
        | zero => rw [if_pos rfl, Nat.zero_add, hbits, decide_eq_true h1, Bool.true_and, Nat.add_comm]
        | succ t => rw [if_neg (by omega), Nat.add_sub_cancel, ht t]; congr 1; omega
      · rw [if_neg h2]
        have hz : ∀ t, d ≤ t → r.testBit t = false := fun t h => by rw [hbits, testBit_ge hw (by omega), Bool.and_false]
        refine skip (hz d (Nat.le_refl _)) (Nat.eq_of_testBit_eq fun t => ?_)
        rw [ht, hz _ (by omega), Nat.zero_testBit]
    · rw [if_neg h1]
      have hz : ∀ t, d ≤ t → r.testBit t = false := fun t h => by rw [hbits, decide_eq_false (by omega), Bool.false_and]
      refine skip (hz d (Nat.le_refl _)) (Nat.eq_of_testBit_eq fun t => ?_)
      rw [ht, hz _ (by omega), Nat.zero_testBit]
theorem refField_eq {k : Nat} (hk : 66 ≤ k) {w : Nat} (hw : w < 2 ^ 64) (a n : Int) : hermitcrabref01_Field.f k (w : Int) a n = some ((fld w a n : Nat) : Int) := by
  obtain ⟨k, rfl⟩ : ∃ m, k = m + 1 := ⟨k - 1, by omega⟩
  have ht : hermitcrabref01_Field.j0 (k + 1) (w : Int) a n true = some 0 := by simp [hermitcrabref01_Field.j0]
  have hf := fun h => testBit_fld w (a := a) (n := n) h
  have hl := fld_le w a n
  unfold hermitcrabref01_Field.f
  by_cases h1 : a < 0
  · rw [if_pos h1, ht]; simp [fld, h1]
  · by_cases h2 : a > 63
    · rw [if_neg h1, if_pos h2, ht]; simp [fld, h2]
    · by_cases h3 : n < 1
      · rw [if_neg h1, if_neg h2, decide_eq_true h3, ht]; simp [fld, show n ≤ 0 by omega]
      · rw [if_neg h1, if_neg h2, decide_eq_false h3]
        obtain ⟨a, rfl⟩ := Int.eq_ofNat_of_zero_le (show 0 ≤ a by omega)
        simp only [hermitcrabref01_Field.j0]
        rw [if_neg (by simp)]
        have hf := hf (by omega)
        rw [Int.toNat_natCast] at hf
        have := refField_loop hw (a := a) (by omega) (n := n) (fld w a n) hf 64 k 0 (by omega) (by omega) (by decide)
          (fun t => by rw [Nat.zero_testBit, hf, testBit_ge hw (by omega), Bool.and_false])
        exact this
theorem refWith_loop {w v : Nat} (hw : w < 2 ^ 64) (hv : v < 2 ^ 64) {a : Nat} (ha : a < 64) {n : Int} (r : Nat)
    (hbits : ∀ i, r.testBit i = (decide (i < 64) && if (a : Int) ≤ i ∧ (i : Int) - a < n then v.testBit (i - a) else w.testBit i)) (d : Nat) :
    ∀ (k o : Nat), d ≤ 64 → d < k → o < 2 ^ (64 - d) → (∀ t, o.testBit t = r.testBit (t + d)) → hermitcrabref01_With.l0 k (w : Int) (a : Int) n (v : Int) (o : Int) ((d : Int) - 1) = some (r : Int) := by
  induction d with
  | zero =>
    intro k o _ hk _ ht
    obtain ⟨k, rfl⟩ : ∃ m, k = m + 1 := ⟨k - 1, by omega⟩
    simp only [hermitcrabref01_With.l0]
    rw [if_neg (by omega)]
    congr 2
    exact Nat.eq_of_testBit_eq fun i => by rw [ht i, Nat.add_zero]
  | succ d ih =>
    intro k o hd hk ho ht
    obtain ⟨k, rfl⟩ : ∃ m, k = m + 1 := ⟨k - 1, by omega⟩
    have e0 : ((d + 1 : Nat) : Int) - 1 = (d : Int) := by omega
    have e1 : wrap64 ((d : Int) - 1) = (d : Int) - 1 := wrap64_in (by omega) (by omega)
    have ho' : o < 2 ^ (63 - d) := by rw [show 63 - d = 64 - (d + 1) by omega]; exact ho
    have go : ∀ b : Bool, r.testBit d = b → hermitcrabref01_With.l0 k (w : Int) (a : Int) n (v : Int) (IntKind.u64.wrap (IntKind.u64.wrap (2 * (o : Int)) + ((b.toNat : Nat) : Int))) ((d : Int) - 1) = some (r : Int) := by
      intro b hb
      obtain ⟨e4, h4⟩ := step_wrap (i := d) (by omega) ho' b
      rw [e4]
      refine ih k _ (by omega) (by omega) h4 (fun t => ?_)
      rw [testBit_bit]
      cases t with
      | zero => rw [if_pos rfl, Nat.zero_add, hb]
      | succ t => rw [if_neg (by omega), Nat.add_sub_cancel, ht t]; congr 1; omega
    have hb := hbits d
    rw [decide_eq_true (show d < 64 by omega), Bool.true_and] at hb
    simp only [hermitcrabref01_With.l0]
    rw [if_pos (by omega), e0, e1, bit_eq hw (by omega)]
    clear e1
    simp only [Option.bind_some]
    by_cases h1 : (d : Int) ≥ (a : Int)
    · have e2 : wrap64 ((d : Int) - (a : Int)) = ((d - a : Nat) : Int) := by rw [wrap64_in (by omega) (by omega)]; omega
      rw [if_pos h1, e2]
      by_cases h2 : ((d - a : Nat) : Int) < n
      · rw [if_pos h2, bit_eq hv (by omega)]
        simp only [Option.bind_some]
        exact go _ (by rw [hb, if_pos ⟨by omega, by omega⟩])
      · rw [if_neg h2]
        exact go _ (by rw [hb, if_neg (by omega)])
    · rw [if_neg h1]
      exact go _ (by rw [hb, if_neg (by omega)])
theorem refWith_eq {k : Nat} (hk : 66 ≤ k) {w v : Nat} (hw : w < 2 ^ 64) (hv : v < 2 ^ 64) (a n : Int) : hermitcrabref01_With.f k (w : Int) a n (v : Int) = some ((wth w a n v : Nat) : Int) := by
  obtain ⟨k, rfl⟩ : ∃ m, k = m + 1 := ⟨k - 1, by omega⟩
  have ht : hermitcrabref01_With.j0 (k + 1) (w : Int) a n (v : Int) true = some (w : Int) := by simp [hermitcrabref01_With.j0]
  have hf := fun h => testBit_wth hw (a := a) (n := n) v h
  unfold hermitcrabref01_With.f
  by_cases h1 : a < 0
  · rw [if_pos h1, ht]; simp [wth, h1]
  · by_cases h2 : a > 63
    · rw [if_neg h1, if_pos h2, ht]; simp [wth, h2]
    · by_cases h3 : n < 1
      · rw [if_neg h1, if_neg h2, decide_eq_true h3, ht]; simp [wth, show n ≤ 0 by omega]
      · rw [if_neg h1, if_neg h2, decide_eq_false h3]
        obtain ⟨a, rfl⟩ := Int.eq_ofNat_of_zero_le (show 0 ≤ a by omega)
        simp only [hermitcrabref01_With.j0]
        rw [if_neg (by simp)]
        have hf := hf (by omega)
        rw [Int.toNat_natCast] at hf
        exact refWith_loop hw hv (a := a) (by omega) (n := n) (wth w a n v) hf 64 k 0 (by omega) (by omega) (by decide)
          (fun t => by rw [Nat.zero_testBit, hf, decide_eq_false (by omega), Bool.false_and])
theorem awake_true (k : Nat) : hermitcrablaw01_awake.f (k + 1) = some true := by
  unfold hermitcrablaw01_awake.f
  have := field_eq k (w := 240) (by decide) 4 4
  rw [show ((240 : Nat) : Int) = 240 from rfl] at this
  rw [this]
  simp only [Option.bind_some]
  rw [if_pos (by decide)]
  decide +kernel
theorem WordFields : hermitcrablaw01_WordFields.Pure := by
  intro a0 a1 a2 a3 w0 w1 w2 w3
  obtain ⟨w, rfl, hw⟩ := wf_u64 w0
  obtain ⟨v, rfl, hv⟩ := wf_u64 w3
  refine ⟨66, ?_⟩
  unfold hermitcrablaw01_WordFields.f
  rw [awake_true]; simp only [Option.bind_some, if_true]
  rw [field_eq 65 hw, refField_eq (by omega) hw]; simp only [Option.bind_some, if_true]
  rw [with_eq 65 hw hv, refWith_eq (by omega) hw hv]; simp
end Go.Proofs.Ytfmedcgejdkehaa.Pure
