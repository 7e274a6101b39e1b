/- Walks through the functions of the statement, and the statement over them: each contract says what the call answers and that nothing else changes. -/
import Derived.Test.YthgccppclkkohaaProg
import Derived.Test.YthgccppclkkohaaWalkSeat
import Derived.Test.YthgccppclkkohaaBits
import Derived.Test.YthgccppclkkohaaHeap
import Derived.Test.YthgccppclkkohaaAid
import Derived.Lib.Hide
import Derived.Test.YthgccppclkkohaaArr
import Derived.Test.YthgccppclkkohaaEql
import Derived.WalkKit
import Derived.WalkSpells
import Derived.WalkLawsBesides
import Derived.Deep.QuietTactic
import Derived.BigQuiet
import Derived.Deep.RegionHeld3
import Derived.Deep.DeepCutAuto
import Derived.Deep.CutBlock
import Derived.Lib.SlBytesConst
import Derived.StillTailTactics
import Derived.Laws.MakeOwn
import Derived.Deep.AppendLies
import Derived.RegionTactic
import Derived.Deep.RegionLaw
namespace Go.Proofs.Ythgccppclkkohaa.Walks
set_option linter.unusedVariables false
set_option linter.unusedSimpArgs false
open Go.RowKit Go.Proofs.Ythgccppclkkohaa.Bits Go.Proofs.Ythgccppclkkohaa.Heap Go.Proofs.Ythgccppclkkohaa.Aid Go.Proofs.Ythgccppclkkohaa.Arr Go.Proofs.Ythgccppclkkohaa.Eql

/-- A product's upper half, of the upper and lower halves of its parts. -/
theorem mul_hi (A B : Int) :
    A * 2654435769 + (A * 2135587861 + B * 2135587861 / 4294967296) / 4294967296 + ((A * 2135587861 + B * 2135587861 / 4294967296) % 4294967296 + B * 2654435769) / 4294967296 = (A * 4294967296 + B) * 11400714819323198485 / 18446744073709551616 := by
  omega
theorem mul_lo (A B : Int) :
    (((A * 2135587861 + B * 2135587861 / 4294967296) % 4294967296 + B * 2654435769) % 4294967296) * 4294967296 + B * 2135587861 % 4294967296 = (A * 4294967296 + B) * 11400714819323198485 % 18446744073709551616 := by
  omega
theorem and32 {m : Nat} (hm : m < 2 ^ 64) : bits .and .u64 (m : Int) 4294967295 = (m : Int) % 4294967296 := by
  have := bits_and (k := .u64) rfl hm (n := 4294967295) (by decide)
  rw [show ((4294967295 : Nat) : Int) = 4294967295 from rfl, show (4294967295 : Nat) = 2 ^ 32 - 1 from rfl, Nat.and_two_pow_sub_one_eq_mod] at this
  exact this
/-- A word turned left by 17. -/
def rot17 (m : Nat) : Nat := 2 ^ 17 * (m % 2 ^ 47) + m / 2 ^ 47
def mixN (s x : Nat) : Nat := rot17 ((s ^^^ x) * 11400714819323198485 / 18446744073709551616) ^^^ ((s ^^^ x) * 11400714819323198485 % 18446744073709551616)
theorem rot17_lt {m : Nat} (hm : m < 2 ^ 64) : rot17 m < 2 ^ 64 := by unfold rot17; omega
theorem rot17_or {m : Nat} (hm : m < 2 ^ 64) : bits .or .u64 (IntKind.u64.wrap ((m : Int) * 131072)) ((m : Int) / 140737488355328) = ((rot17 m : Nat) : Int) := by
  have h1 : 2 ^ 17 * (m % 2 ^ 47) < 2 ^ 64 := by omega
  have h2 : m / 2 ^ 47 < 2 ^ 17 := by omega
  have e1 : IntKind.u64.wrap ((m : Int) * 131072) = ((2 ^ 17 * (m % 2 ^ 47) : Nat) : Int) := by rw [wrap_u64]; omega
  have e2 : (m : Int) / 140737488355328 = ((m / 2 ^ 47 : Nat) : Int) := by omega
  rw [e1, e2, bits_or (k := .u64) rfl h1 (Nat.lt_of_lt_of_le h2 (by decide)), ← Nat.two_pow_add_eq_or_of_lt h2]
  rfl
theorem mixN_lt (s x : Nat) (hs : s < 2 ^ 64) (hx : x < 2 ^ 64) : mixN s x < 2 ^ 64 := by
  have hm := Nat.xor_lt_two_pow hs hx
  unfold mixN
  generalize s ^^^ x = m at hm ⊢
  exact Nat.xor_lt_two_pow (rot17_lt (by omega)) (by omega)
theorem mul_hi_wrapped {m : Nat} (hm : m < 2 ^ 64) :
    IntKind.u64.wrap (IntKind.u64.wrap ((m : Int) / 4294967296 * 2654435769 + ((m : Int) / 4294967296 * 2135587861 + (m : Int) % 4294967296 * 2135587861 / 4294967296) / 4294967296) +
      IntKind.u64.wrap (bits .and .u64 ((m : Int) / 4294967296 * 2135587861 + (m : Int) % 4294967296 * 2135587861 / 4294967296) 4294967295 + (m : Int) % 4294967296 * 2654435769) / 4294967296) = ((m * 11400714819323198485 / 18446744073709551616 : Nat) : Int) := by
  have e := and32 (m := m / 4294967296 * 2135587861 + m % 4294967296 * 2135587861 / 4294967296) (by omega)
  have e2 : ((m / 4294967296 * 2135587861 + m % 4294967296 * 2135587861 / 4294967296 : Nat) : Int) = (m : Int) / 4294967296 * 2135587861 + (m : Int) % 4294967296 * 2135587861 / 4294967296 := by omega
  rw [e2] at e
  rw [e, wrap_u64, wrap_u64, wrap_u64]
  have h := mul_hi ((m : Int) / 4294967296) ((m : Int) % 4294967296)
  have hA : 0 ≤ (m : Int) / 4294967296 ∧ (m : Int) / 4294967296 < 4294967296 := by omega
  have hB : 0 ≤ (m : Int) % 4294967296 ∧ (m : Int) % 4294967296 < 4294967296 := by omega
  have hm2 : (m : Int) = (m : Int) / 4294967296 * 4294967296 + (m : Int) % 4294967296 := by omega
  have e3 : ((m * 11400714819323198485 / 18446744073709551616 : Nat) : Int) = ((m : Int) / 4294967296 * 4294967296 + (m : Int) % 4294967296) * 11400714819323198485 / 18446744073709551616 := by
    rw [← hm2]; omega
  rw [e3, ← h]
  have h4 : ((m : Int) / 4294967296 * 4294967296 + (m : Int) % 4294967296) * 11400714819323198485 / 18446744073709551616 < 18446744073709551616 := by omega
  rw [← h] at h4
  clear e e2 e3 h hm2
  generalize (m : Int) / 4294967296 = A at *
  generalize (m : Int) % 4294967296 = B at *
  have b1 : 0 ≤ B * 2135587861 / 4294967296 ∧ B * 2135587861 / 4294967296 < 2135587861 := by omega
  generalize B * 2135587861 / 4294967296 = y at *
  have b2 : 0 ≤ (A * 2135587861 + y) / 4294967296 ∧ (A * 2135587861 + y) / 4294967296 < 2135587861 := by omega
  have b3 : 0 ≤ (A * 2135587861 + y) % 4294967296 ∧ (A * 2135587861 + y) % 4294967296 < 4294967296 := by omega
  generalize (A * 2135587861 + y) / 4294967296 = z at *
  generalize (A * 2135587861 + y) % 4294967296 = u at *
  have e1 : (A * 2654435769 + z) % 18446744073709551616 = A * 2654435769 + z := Int.emod_eq_of_lt (by omega) (by omega)
  have e2 : (u + B * 2654435769) % 18446744073709551616 = u + B * 2654435769 := Int.emod_eq_of_lt (by omega) (by omega)
  rw [e1, e2]
  exact Int.emod_eq_of_lt (by omega) h4
theorem mul_lo_wrapped (m : Nat) : IntKind.u64.wrap ((m : Int) * 11400714819323198485) = ((m * 11400714819323198485 % 18446744073709551616 : Nat) : Int) := by
  rw [wrap_u64]; omega
theorem ret_two {k k' : IntKind} {a b c d : Int} (h : a = b) (h' : c = d) : Ending.returned (.tuple #[.int k a, .int k' c]) = .returned (.tuple #[.int k b, .int k' d]) := by rw [h, h']
set_option maxHeartbeats 1000000 in
theorem mul64_calls {m : Nat} (hm : m < 2 ^ 64) (w : World) :
    Calls Try.prog 25 #[.int .u64 m, .int .u64 11400714819323198485] w fun e w' => e = .returned (.tuple #[.int .u64 ((m * 11400714819323198485 / 18446744073709551616 : Nat) : Int), .int .u64 ((m * 11400714819323198485 % 18446744073709551616 : Nat) : Int)]) ∧ w = w' := by
  have hK : bits .and .u64 11400714819323198485 4294967295 = 2135587861 := by decide +kernel
  have hM := and32 hm
  go_enter Try.func25, Try.ntmps25
  go_wp2
  go_ret2
  exact ⟨ret_two (mul_hi_wrapped hm) (mul_lo_wrapped m), rfl⟩
set_option maxHeartbeats 1000000 in
theorem rot64_calls {m : Nat} (hm : m < 2 ^ 64) (w : World) :
    Calls Try.prog 26 #[.int .u64 m, .int .i64 17] w fun e w' => e = .returned (.int .u64 (rot17 m)) ∧ w = w' := by
  have h17 : bits .and .u64 17 63 = 17 := by decide +kernel
  have HR := Lib.hid (rot17_or hm)
  go_enter Try.func26, Try.ntmps26
  go_wp2
  go_ret
  exact ⟨ret_int HR.out, rfl⟩
set_option maxHeartbeats 1000000 in
theorem mix_calls {s x : Nat} (hs : s < 2 ^ 64) (hx : x < 2 ^ 64) (w : World) :
    Calls Try.prog 23 #[.int .u64 s, .int .u64 x] w fun e w' => e = .returned (.int .u64 (mixN s x)) ∧ w = w' := by
  have HX := Lib.hid (bits_xor (k := .u64) rfl hs hx)
  have hm : s ^^^ x < 2 ^ 64 := Nat.xor_lt_two_pow hs hx
  have hR : rot17 ((s ^^^ x) * 11400714819323198485 / 18446744073709551616) < 2 ^ 64 := rot17_lt (by omega)
  have HE := Lib.hid (bits_xor (k := .u64) rfl hR (n := (s ^^^ x) * 11400714819323198485 % 18446744073709551616) (Nat.mod_lt _ (by omega)))
  clear hR
  go_enter Try.func23, Try.ntmps23
  go_wp2_with fail
  rw [HX.out]
  refine (mul64_calls hm _).mono ?_
  rintro e w' ⟨rfl, rfl⟩
  go_wp2_with fail
  refine (rot64_calls (m := (s ^^^ x) * 11400714819323198485 / 18446744073709551616) (by omega) _).mono ?_
  rintro e w' ⟨rfl, rfl⟩
  go_wp2_with fail
  go_ret
  exact ⟨ret_int HE.out, rfl⟩
theorem zero_val (w : World) : (zeroValue 26).run Try.prog w = .ok (.agg zeroSe.cells.toArray) w := by kernel_rfl
/-- A seat's sum. -/
def sumN (l : List Nat) : Nat := l.foldl mixN 0
theorem foldl_snoc {α β : Type} (f : β → α → β) (a : β) (l : List α) (x : α) : (l ++ [x]).foldl f a = f (l.foldl f a) x := by rw [List.foldl_append]; rfl
theorem sumN_snoc (l : List Nat) (x : Nat) : sumN (l ++ [x]) = mixN (sumN l) x := foldl_snoc mixN 0 l x
theorem foldl_lt {B : Nat} (f : Nat → Nat → Nat) (hf : ∀ s x, s < B → x < B → f s x < B) : ∀ (l : List Nat) (s : Nat), s < B → (∀ y ∈ l, y < B) → l.foldl f s < B := by
  intro l
  induction l with
  | nil => exact fun s hs _ => hs
  | cons x r ih => exact fun s hs h => ih _ (hf s x hs (h x (by simp))) (fun y hy => h y (by simp [hy]))
theorem sumN_lt (l : List Nat) (h : ∀ y ∈ l, y < 2 ^ 64) : sumN l < 2 ^ 64 := by
  exact foldl_lt mixN (fun s x hs hx => mixN_lt s x hs hx) l 0 (by omega) h
theorem sum_step {l : List Nat} {k : Nat} (hk : k < l.length) : sumN (l.take (k + 1)) = mixN (sumN (l.take k)) l[k] := by rw [List.take_succ_eq_append_getElem hk, sumN_snoc]
set_option maxHeartbeats 2000000 in
theorem sum_calls (x : Se) (h : x.Ok) (w : World) : Calls Try.prog 17 #[.agg x.cells.toArray] w fun e w' => e = .returned (.int .u64 ((sumN (packL x) : Nat) : Int)) ∧ Below w.heap.size w w' := by
  have HP := Lib.hid (pack_calls x h)
  have LP := Lib.hid (packL_len h)
  have BP := Lib.hid (packL_lt h)
  have IX := Lib.hid (info_se h)
  have X1 : Hid (Own w w.heap.size x.cells 26 (w.alloc (.cells x.cells.toArray 26))) := Own.newL (Below.refl _ _) _ _
  clear h
  generalize packL x = pl at *
  generalize x.cells = XC at *
  go_enter Try.func17, Try.ntmps17
  go_upto_region 1 with (fail)
  generalize w.alloc (.cells XC.toArray 26) = w1 at *
  go_wp2_with (first | refine wpList_load_mid rfl 26 (.tmp 1) rfl w.heap.size 0 rfl XC _ X1.out.all Try.underlying26 rfl IX.out ?_ | (go_at_call 14; refine (HP.out _).mono ?_; rintro e w2 ⟨v, rfl, r2, u2⟩; have X2 := Lib.hid (X1.out.step u2); have R2 := Lib.hid r2; obtain ⟨a2, c2, rfl⟩ := r2.form; rw [LP.out]; clear u2 r2))
  have hz0 := Lib.hid (show sumN (pl.take 0) = 0 from rfl)
  go_loopw [3, 9] (fun t i wr => ∃ k : Nat, k ≤ 26 ∧ i = .int .i64 k ∧ t = .int .u64 ((sumN (pl.take k) : Nat) : Int) ∧ Below w2.heap.size w2 wr) (fun _ i _ => 26 - (intOf i).toNat)
  case atStart => exact ⟨0, by omega, rfl, rfl, Below.refl _ _⟩
  case round =>
    obtain ⟨k, hk, rfl, rfl, hb⟩ := hrel
    have B3 := Lib.hid hb
    clear hb
    by_cases hlt : k < 26
    · have hkl : k < pl.length := by rw [LP.out]; exact hlt
      obtain ⟨ad, rfl, hcp⟩ : ∃ ad, a2 = some ad ∧ w2.cell? (ad.add k) = some (.int .u64 ((pl[k] : Nat) : Int)) := by
        rcases R2.out with ⟨h, h0⟩ | ⟨ad, c', h, _, hc⟩
        · rw [h0] at hkl; simp at hkl
        · injection h with h1 _ _
          exact ⟨ad, h1, hc k _ (List.getElem?_eq_getElem hkl)⟩
      have cw : wr.cell? (ad.add k) = some (.int .u64 ((pl[k] : Nat) : Int)) := by rw [B3.out.cell (World.block_lt_of_cell? w2 _ hcp), hcp]
      have MC := Lib.hid (fun W => mix_calls (sumN_lt (pl.take k) (fun y hy => BP.out y (List.mem_of_mem_take hy))) (BP.out pl[k] (List.getElem_mem hkl)) W)
      rw [← sum_step hkl] at MC
      clear hcp
      generalize ((pl[k] : Nat) : Int) = xi at *
      generalize ((sumN (pl.take k) : Nat) : Int) = si at *
      go_wp2_with (go_at_call 23; refine (MC.out _).mono ?_; rintro e w4 ⟨rfl, rfl⟩)
      go_roundw
      case rel => exact ⟨k + 1, by omega, by go_num, rfl, B3.out⟩
      case measure => simp [intOf]; omega
    · obtain rfl : k = 26 := by omega
      rw [List.take_of_length_le (by rw [LP.out]; omega)]
      go_wp2
      go_ret
      exact ⟨rfl, X2.out.bel.trans (B3.out.mono X2.out.bel.size)⟩
theorem sums_apart : sumN (packL zeroSe) ≠ sumN (packL { zeroSe with st := 2 }) := by decide +kernel
theorem trap_zero : trapS zeroSe 1 2 = { zeroSe with st := 2 } := rfl
set_option maxHeartbeats 1000000 in
theorem seatNew_calls (w : World) : Calls Try.prog 21 #[] w fun e w' => e = .returned (.agg zeroSe.cells.toArray) ∧ Below w.heap.size w w' := by
  have hz := zero_val
  have HZL := Lib.hid zero_ok.len
  have HO := Lib.hid (Se.one zeroSe)
  have HI := Lib.hid (info_se zero_ok)
  generalize zeroSe.cells = ZC at *
  have hzs : ZC.toArray.size = 26 := by simpa using HZL.out
  have hzn : ¬ ZC.toArray = #[] := fun h => by rw [h] at hzs; simp at hzs
  have X1 := Lib.hid (Own.newL (Below.refl _ w) ZC (26 : Nat))
  have hst := X1.out.store (P := Try.prog) ZC rfl HO.out
  have X2 := Lib.hid (X1.out.setAll ZC rfl)
  go_enter Try.func21, Try.ntmps21
  go_wp2
  try simp only [hst]
  try go_wp2
  generalize World.setCells _ _ _ _ = w2 at *
  refine bodyPost_ret (v := .agg ZC.toArray) (results_cell_row Try.results21 _ _ w.heap.size _ ZC.toArray _ _ rfl X2.out.k Try.underlying26 rfl (by simpa using HI.out)) rfl ⟨rfl, X2.out.bel⟩
set_option maxHeartbeats 2000000 in
theorem awake_calls (w : World) : Calls Try.prog 12 #[] w fun e w' => e = .returned (.bool true) ∧ Below w.heap.size w w' := by
  have okd : Hid (({ zeroSe with st := 2 } : Se).Ok) := ⟨zero_ok.l, zero_ok.w, by decide, zero_ok.p, zero_ok.m⟩
  have HN := Lib.hid (seatNew_calls)
  have HT := Lib.hid (trap_calls zeroSe zero_ok 1 2 (by omega) (by omega))
  rw [trap_zero] at HT
  have HS1 := Lib.hid (sum_calls zeroSe zero_ok)
  have HS2 := Lib.hid (sum_calls _ okd.out)
  have HP := Lib.hid (pack_calls _ okd.out)
  have LP := Lib.hid (packL_len okd.out)
  have AP : Hid ((((sumN (packL zeroSe) : Nat) : Int) == ((sumN (packL { zeroSe with st := 2 }) : Nat) : Int)) = false) := by
    show _ = _
    rw [beq_eq_false_iff_ne]
    intro h
    exact sums_apart (by omega)
  have IZ := Lib.hid (info_se zero_ok)
  have ID := Lib.hid (info_se okd.out)
  have G23 := Lib.hid okd.out.g23
  have hz := zero_val
  have HZL := Lib.hid zero_ok.len
  have HO := Lib.hid (Se.one zeroSe)
  generalize ((sumN (packL zeroSe) : Nat) : Int) = s1 at *
  generalize ((sumN (packL { zeroSe with st := 2 }) : Nat) : Int) = s2 at *
  generalize packL { zeroSe with st := 2 } = pd at *
  generalize ({ zeroSe with st := 2 } : Se).cells = DC at *
  generalize zeroSe.cells = ZC at *
  have hzs : ZC.toArray.size = 26 := by simpa using HZL.out
  have hzn : ¬ ZC.toArray = #[] := fun h => by rw [h] at hzs; simp at hzs
  have hap := AP.out
  have hap2 : (s1 != s2) = true := by rw [bne, hap]; rfl
  go_enter Try.func12, Try.ntmps12
  go_upto_region 1 with (fail)
  go_upto_region 2 with (first | (go_at_call 21; refine (HN.out _).mono ?_; rintro e w1 ⟨rfl, u1⟩; have B1 := Lib.hid u1; have X1 := Lib.hid (Own.newL u1 ZC (26 : Nat)); have X2 := Lib.hid (X1.out.setAll ZC rfl); clear u1) | refine wpList_store_mid (by rfl) 26 (.tmp 1) (.tmp 3) (by rfl) w1.heap.size 0 ZC.toArray (by rfl) (by rfl) (X1.out.there ?s1) ?s2 ?s3 ?_)
  case s1 => simp
  case s2 => simpa using IZ.out
  case s3 => first | exact HO.out | exact all_oneCell_toArray HO.out
  generalize World.setCells _ _ _ _ = w2 at *
  go_upto_region 3 with (first | refine wpList_load_mid rfl 26 (.tmp 1) rfl w1.heap.size 0 rfl ZC _ X2.out.all Try.underlying26 rfl IZ.out ?_ | (go_at_call 17; refine (HS1.out _).mono ?_; rintro e w3 ⟨rfl, u3⟩; have X3 := Lib.hid (X2.out.step u3); clear u3))
  go_upto_region 4 with (go_at_call 10; refine (HT.out _ _ X3.out.k).mono ?_; rintro e w4 ⟨rfl, u4⟩; have X4 := Lib.hid (X3.out.upd u4); clear u4)
  have c23 := X4.out.cell G23.out
  rw [show ((2 : Nat) : Int) = 2 from rfl] at c23
  go_wp2_with (first | refine wpList_load_w (by rfl) 26 (.tmp 1) rfl w1.heap.size 0 rfl DC _ X5.out.all Try.underlying26 rfl ID.out ?_ | refine wpList_load_w (by rfl) 26 (.tmp 1) rfl w1.heap.size 0 rfl DC _ X4.out.all Try.underlying26 rfl ID.out ?_ | (go_at_call 14; refine (HP.out _).mono ?_; rintro e w5 ⟨v, rfl, r5, u5⟩; have X5 := Lib.hid (X4.out.step u5); obtain ⟨a5, c5, rfl⟩ := r5.form; rw [LP.out]; clear u5 r5) | (go_at_call 17; refine (HS2.out _).mono ?_; rintro e w6 ⟨rfl, u6⟩; have X6 := Lib.hid (X5.out.step u6); clear u6))
  go_ret
  exact ⟨rfl, X6.out.bel⟩
theorem trap_cells {x : Se} (h : x.Ok) {c a : Nat} (hc : c < 2 ^ 64) (ha : a < 2 ^ 64) (hv : x.r.getD 18 0 ≠ 0) :
    ((((x.cells.set 19 (.int .u64 ((x.r.getD 16 0 : Nat) : Int))).set 20 (.int .u64 (c : Int))).set 21 (.int .u64 (a : Int))).set 16 (.int .u64 ((x.r.getD 18 0 : Nat) : Int))).set 22 (.bool false) = (trapS x c a).cells := by
  have kr : ∀ (r : List Nat), r.length = 22 → (∀ y ∈ r, y < 2 ^ 64) → ({ x with r := r } : Se).Ok := fun r h1 h2 => ⟨h1, h2, h.s, h.p, h.m⟩
  have k1 := kr (x.r.set 19 (x.r.getD 16 0)) (by simp [h.l]) (set_lt h.w (getD_lt h 16))
  have k2 := kr ((x.r.set 19 (x.r.getD 16 0)).set 20 c) (by simp [h.l]) (set_lt k1.w hc)
  have k3 := kr (((x.r.set 19 (x.r.getD 16 0)).set 20 c).set 21 a) (by simp [h.l]) (set_lt k2.w ha)
  have k4 := kr ((((x.r.set 19 (x.r.getD 16 0)).set 20 c).set 21 a).set 16 (x.r.getD 18 0)) (by simp [h.l]) (set_lt k3.w (getD_lt h 18))
  rw [h.sr (by omega), k1.sr (by omega), k2.sr (by omega), k3.sr (by omega), k4.s22 false]
  unfold trapS
  rw [if_neg hv]
theorem trap_dead {x : Se} (h : x.Ok) {c a : Nat} (hv : x.r.getD 18 0 = 0) : x.cells.set 23 (.int .u8 2) = (trapS x c a).cells := by
  have := h.s23 2
  unfold trapS
  rw [if_pos hv]
  exact this
set_option maxHeartbeats 2000000 in
theorem refTrap_calls (x : Se) (h : x.Ok) (c a : Nat) (hc : c < 2 ^ 64) (ha : a < 2 ^ 64) (w : World) :
    Calls Try.prog 11 #[.agg x.cells.toArray, .int .u64 (c : Int), .int .u64 (a : Int)] w fun e w' => e = .returned (.agg (trapS x c a).cells.toArray) ∧ Below w.heap.size w w' := by
  have okt := Lib.hid (trap_ok h hc ha)
  have IT := Lib.hid (info_se okt.out)
  have LT := Lib.hid okt.out.len
  have OT := Lib.hid (Se.one (trapS x c a))
  have LX := Lib.hid h.len
  have IX := Lib.hid (info_se h)
  have G16 := Lib.hid (h.gr (i := 16) (by omega))
  have G18 := Lib.hid (h.gr (i := 18) (by omega))
  have G19 := Lib.hid (h.gr (i := 19) (by omega))
  have G20 := Lib.hid (h.gr (i := 20) (by omega))
  have G21 := Lib.hid (h.gr (i := 21) (by omega))
  have G22 := Lib.hid h.g22
  have G23 := Lib.hid h.g23
  have TC := Lib.hid (trap_cells (x := x) h hc ha)
  have TD := Lib.hid (trap_dead (x := x) (c := c) (a := a) h)
  have hz := zero_val
  have HZL := Lib.hid zero_ok.len
  generalize (trapS x c a).cells = RC at *
  have hvv : Hid (x.r.getD 18 0 = 0 ∨ x.r.getD 18 0 ≠ 0) := Nat.decEq _ _ |>.em
  generalize hv18 : x.r.getD 18 0 = n18 at *
  generalize ((x.r.getD 16 0 : Nat) : Int) = v16 at *
  generalize ((x.r.getD 19 0 : Nat) : Int) = v19 at *
  generalize ((x.r.getD 20 0 : Nat) : Int) = v20 at *
  generalize ((x.r.getD 21 0 : Nat) : Int) = v21 at *
  generalize x.cells = XC at *
  generalize zeroSe.cells = ZC at *
  have hzs : ZC.toArray.size = 26 := by simpa using HZL.out
  have hzn : ¬ ZC.toArray = #[] := fun h => by rw [h] at hzs; simp at hzs
  have X1 : Hid (Own w w.heap.size XC 26 (w.alloc (.cells XC.toArray 26))) := Own.newL (Below.refl _ _) _ _
  have R1 : Hid (Own w (w.alloc (.cells XC.toArray 26)).heap.size ZC 26 ((w.alloc (.cells XC.toArray 26)).alloc (.cells ZC.toArray 26))) := Own.newL X1.out.bel _ _
  have z1 : (w.alloc (.cells XC.toArray 26)).heap.size = w.heap.size + 1 := by simp
  rw [z1] at R1
  have X2 := Lib.hid (X1.out.alloc (.cells ZC.toArray 26))
  clear z1 X1 hv18 h
  go_enter Try.func11, Try.ntmps11
  go_upto_region 1 with (fail)
  generalize (w.alloc (.cells XC.toArray 26)).alloc _ = w2 at *
  have NE := Lib.hid (show w.heap.size ≠ w.heap.size + 1 by omega)
  have c16 := X2.out.cell G16.out
  have c18 := X2.out.cell G18.out
  have c19 := X2.out.cell G19.out
  have c20 := X2.out.cell G20.out
  have c21 := X2.out.cell G21.out
  have c22 := X2.out.cell G22.out
  have c23 := X2.out.cell G23.out
  have f16 := X2.out.fro 16
  have f19 := X2.out.fro 19
  have f20 := X2.out.fro 20
  have f21 := X2.out.fro 21
  have f22 := X2.out.fro 22
  have f23 := X2.out.fro 23
  rcases hvv.out with h0 | h0
  · subst h0
    have X3 := Lib.hid (X2.out.set 23 (.int .u8 2))
    have R3 := Lib.hid (R1.out.setO NE.out X2.out.n 23 (.int .u8 2))
    rw [TD.out rfl] at X3
    go_upto_region 3 with (fail)
    generalize World.setCell _ _ _ = w3 at *
    clear c16 c18 c19 c20 c21 c22 c23 f16 f19 f20 f21 f22 f23
    have R4 := Lib.hid (R3.out.setAll RC (by rw [LT.out, HZL.out]))
    go_wp2_with (first | refine wpList_load_mid rfl 26 (.tmp 3) rfl w.heap.size 0 rfl RC _ X3.out.all Try.underlying26 rfl IT.out ?_ | refine wpList_store_mid rfl 26 (.tmp 6) (.tmp 11) rfl (w.heap.size + 1) 0 RC.toArray rfl rfl (R3.out.there ?s1) ?s2 ?s3 ?_)
    case s1 => have h1 := LT.out; have h2 := HZL.out; simp; omega
    case s2 => simpa using IT.out
    case s3 => first | exact OT.out | exact all_oneCell_toArray OT.out
    refine bodyPost_ret (v := .agg RC.toArray) (results_cell_row Try.results11 _ _ (w.heap.size + 1) _ RC.toArray _ _ rfl R4.out.k Try.underlying26 rfl (by simpa using IT.out)) rfl ⟨rfl, R4.out.bel⟩
  · have hd : (((n18 : Nat) : Int) == 0) = false := by simp; omega
    have X3 := Lib.hid (((((X2.out.set 19 (.int .u64 v16)).set 20 (.int .u64 (c : Int))).set 21 (.int .u64 (a : Int))).set 16 (.int .u64 ((n18 : Nat) : Int))).set 22 (.bool false))
    have R3 := Lib.hid (((((R1.out.setO NE.out X2.out.n 19 (.int .u64 v16)).setO NE.out X2.out.n 20 (.int .u64 (c : Int))).setO NE.out X2.out.n 21 (.int .u64 (a : Int))).setO NE.out X2.out.n 16 (.int .u64 ((n18 : Nat) : Int))).setO NE.out X2.out.n 22 (.bool false))
    rw [TC.out h0] at X3
    clear h0
    generalize ((n18 : Nat) : Int) = v18 at *
    go_upto_region 9 with (fail)
    generalize World.setCell _ _ _ = w3 at *
    clear c16 c18 c19 c20 c21 c22 c23 f16 f19 f20 f21 f22 f23
    have R4 := Lib.hid (R3.out.setAll RC (by rw [LT.out, HZL.out]))
    go_wp2_with (first | refine wpList_load_mid rfl 26 (.tmp 3) rfl w.heap.size 0 rfl RC _ X3.out.all Try.underlying26 rfl IT.out ?_ | refine wpList_store_mid rfl 26 (.tmp 6) (.tmp 23) rfl (w.heap.size + 1) 0 RC.toArray rfl rfl (R3.out.there ?s1) ?s2 ?s3 ?_)
    case s1 => have h1 := LT.out; have h2 := HZL.out; simp; omega
    case s2 => simpa using IT.out
    case s3 => first | exact OT.out | exact all_oneCell_toArray OT.out
    refine bodyPost_ret (v := .agg RC.toArray) (results_cell_row Try.results11 _ _ (w.heap.size + 1) _ RC.toArray _ _ rfl R4.out.k Try.underlying26 rfl (by simpa using IT.out)) rfl ⟨rfl, R4.out.bel⟩
end Go.Proofs.Ythgccppclkkohaa.Walks
