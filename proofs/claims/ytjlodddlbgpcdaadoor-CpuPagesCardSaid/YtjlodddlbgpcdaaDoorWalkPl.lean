/- Walks through the functions of the statement, and the statement over them: each contract says what the call answers and that nothing else changes. -/
import Derived.Test.YtjlodddlbgpcdaaDoorProg
import Derived.Test.YtjlodddlbgpcdaaDoorBits
import Derived.Test.YtjlodddlbgpcdaaDoorHeap
import Derived.Test.YtjlodddlbgpcdaaDoorAid
import Derived.Test.YtjlodddlbgpcdaaDoorArr
import Derived.Test.YtjlodddlbgpcdaaDoorEql
import Derived.Test.YtjlodddlbgpcdaaDoorWalkBase
import Derived.Test.YtjlodddlbgpcdaaDoorWalkCode
import Derived.Test.YtjlodddlbgpcdaaDoorWalkSeat
import Derived.Test.YtjlodddlbgpcdaaDoorWalkRef
import Derived.Test.YtjlodddlbgpcdaaDoorWalkRefR
import Derived.Test.YtjlodddlbgpcdaaDoorWalkBus
import Derived.Test.YtjlodddlbgpcdaaDoorWalkBus2
import Derived.Test.YtjlodddlbgpcdaaDoorWalkRefP
import Derived.Test.YtjlodddlbgpcdaaDoorWalkRefG
import Derived.Test.YtjlodddlbgpcdaaDoorWalkRefL
import Derived.Test.YtjlodddlbgpcdaaDoorWalkDo
import Derived.Test.YtjlodddlbgpcdaaDoorWalkDo2
import Derived.Test.YtjlodddlbgpcdaaDoorWalkStep
import Derived.Test.YtjlodddlbgpcdaaDoorWalkSome
import Derived.Test.YtjlodddlbgpcdaaDoorWalkAwake
import Derived.Test.YtjlodddlbgpcdaaDoorWalkNil
import Derived.Lib.Hide
import Derived.WalkKit
import Derived.WalkSpells
import Derived.WalkLawsBesides
import Derived.Deep.QuietTactic
import Derived.BigQuiet
import Derived.Deep.RegionHeld3
import Derived.Deep.DeepCutAuto
import Derived.Deep.CutBlock
import Derived.Lib.SlBytesConst
import Derived.StillTailTactics
import Derived.RegionTactic
import Derived.Deep.RegionLaw
import Derived.Laws.BytesString
import Derived.Laws.MakeOwn
import Derived.Deep.AppendLies
import Derived.Laws.CopyOwn
import Derived.Maps.AppendAt
import Derived.Deep.Upon
import Derived.Deep.AppendSrc
import Derived.Shelf.Abstract
import Derived.Shelf.Spec.TrailingZeros
namespace Go.Proofs.YtjlodddlbgpcdaaDoor.Walks
set_option linter.unusedVariables false
set_option linter.unusedSimpArgs false
open Go.RowKit Go.Proofs.YtjlodddlbgpcdaaDoor.Bits Go.Proofs.YtjlodddlbgpcdaaDoor.Heap Go.Proofs.YtjlodddlbgpcdaaDoor.Aid Go.Proofs.YtjlodddlbgpcdaaDoor.Arr Go.Proofs.YtjlodddlbgpcdaaDoor.Eql

theorem encW_right {c a b d : Nat} {n : Int} (h : rightB c a b d n = true) : encW c a b d n = wordF c a b d n := by
  unfold encW; rw [if_pos h]
theorem uN_i16 {n : Int} (hn : -32768 ≤ n ∧ n ≤ 32767) : IntKind.i16.wrap ((uN n : Nat) : Int) = n := by
  simp [IntKind.wrap, IntKind.signed, IntKind.bits, uN]
  omega
/-- Of a right instruction's word: the instruction. -/
theorem dec_enc {c a b d : Nat} {n : Int} (h : rightB c a b d n = true) (hn : -32768 ≤ n ∧ n ≤ 32767) :
    dC (wordF c a b d n) = c ∧ dA (wordF c a b d n) = a ∧ dB (wordF c a b d n) = b ∧ dD (wordF c a b d n) = d ∧ dN (wordF c a b d n) = n := by
  have l1 := rightB_lt h
  have u1 : uN n < 65536 := by unfold uN; omega
  have r1 := of_decide_eq_true h
  have k1 : (if fC (c : Int) then d else uN n) < 65536 := by split <;> omega
  have e1 : dC (wordF c a b d n) = c := by
    unfold dC wordF wordN
    generalize (if fC (c : Int) then d else uN n) = x at *
    omega
  have e2 : dA (wordF c a b d n) = a := by
    unfold dA wordF wordN
    generalize (if fC (c : Int) then d else uN n) = x at *
    omega
  have e3 : dB (wordF c a b d n) = b := by
    unfold dB wordF wordN
    generalize (if fC (c : Int) then d else uN n) = x at *
    omega
  refine ⟨e1, e2, e3, ?_, ?_⟩
  · unfold dD
    rw [e1]
    cases hf : fC (c : Int) with
    | true =>
      rw [if_pos rfl]
      unfold wordF wordN
      rw [hf, if_pos rfl]
      omega
    | false =>
      rw [if_neg (by simp)]
      have a1 := of_decide_eq_true r1.2.2.2.1
      rw [hf] at a1
      simp only [Bool.false_eq_true, false_and, or_false] at a1
      omega
  · unfold dN
    rw [e1]
    cases hf : fC (c : Int) with
    | true =>
      rw [if_pos rfl]
      have hr := of_decide_eq_true hf
      have hN : ¬ fN (c : Int) = true := fun h => by have := of_decide_eq_true h; omega
      exact (r1.2.2.2.2.1.resolve_left hN).symm
    | false =>
      rw [if_neg (by simp)]
      have e : wordF c a b d n / 2 ^ 0 % 2 ^ 16 = uN n := by
        unfold wordF wordN
        rw [hf, if_neg (by simp)]
        omega
      rw [e, uN_i16 hn]
theorem decOk_enc {c a b d : Nat} {n : Int} (h : rightB c a b d n = true) (hn : -32768 ≤ n ∧ n ≤ 32767) : decOk (wordF c a b d n) = true := by
  obtain ⟨e1, e2, e3, e4, e5⟩ := dec_enc h hn
  unfold decOk
  rw [e1, e2, e3, e4, e5, h, encW_right h]
  simp
theorem decCells_enc {c a b d : Nat} {n : Int} (h : rightB c a b d n = true) (hn : -32768 ≤ n ∧ n ≤ 32767) : decCells (wordF c a b d n) = [.int .u8 c, .int .u8 a, .int .u8 b, .int .u8 d, .int .i16 n] := by
  obtain ⟨e1, e2, e3, e4, e5⟩ := dec_enc h hn
  unfold decCells
  rw [decOk_enc h hn, if_pos rfl, e1, e2, e3, e4, e5]
theorem wordF_lt {c a b d : Nat} {n : Int} (h : rightB c a b d n = true) : wordF c a b d n < 2 ^ 32 := by
  have l1 := rightB_lt h
  have u1 : uN n < 65536 := by unfold uN; omega
  have k1 : (if fC (c : Int) then d else uN n) < 65536 := by split <;> omega
  unfold wordF wordN
  generalize (if fC (c : Int) then d else uN n) = x at *
  omega
def retW : Nat := 1476395008
def trapP (bad : Nat) : List Nat := leB 4 bad ++ List.replicate 12 0 ++ leB 4 retW ++ List.replicate 12 0
theorem trapP_len (bad : Nat) : (trapP bad).length = 32 := by simp [trapP, leB_length]
theorem trapP_lt (bad : Nat) : ∀ y ∈ trapP bad, y < 256 := by
  intro y hy
  simp only [trapP, List.mem_append, List.mem_replicate] at hy
  rcases hy with ((h | h) | h) | h
  · exact leB_lt _ _ y h
  · omega
  · exact leB_lt _ _ y h
  · omega
def trapX (r2 : Nat) : Se := ⟨[0, 0, r2, 0, 0, 0, 0, 0, 0, 0, 0, 0, 0, 0, 0, 0, 0, 0, 16, 0, 0, 0], false, 0, 0, 0⟩
def trapY (r2 c a : Nat) : Se := ⟨[0, 0, r2, 0, 0, 0, 0, 0, 0, 0, 0, 0, 0, 0, 0, 0, 16, 0, 16, 0, c, a], false, 0, 0, 0⟩
def trapZ (r2 c a : Nat) : Se := ⟨[0, 0, r2, 0, 0, 0, 0, 0, 0, 0, 0, 0, 0, 0, 0, 0, 0, 0, 16, 0, c, a], true, 0, 0, 0⟩
theorem someM_0 (write : Nat) (p : List Nat) : (someM 1 write p [] 32).p 0 = fillP p := by simp [someM]
theorem someM_1 (write : Nat) (p : List Nat) {j : Nat} (h : j ≠ 0) : (someM 1 write p [] 32).p j = [] := by
  have : Nat.testBit 1 j = false := by
    cases j with
    | zero => exact absurd rfl h
    | succ j => simp [Nat.testBit_succ]
  simp [someM, this]
theorem take4_fill (bad : Nat) : ((fillP (trapP bad)).drop 0).take 4 = leB 4 bad := by
  unfold fillP trapP
  rw [List.drop_zero, List.append_assoc, List.append_assoc, List.append_assoc]
  exact List.take_left' (leB_length 4 bad)
theorem take4_fill16 (bad : Nat) : ((fillP (trapP bad)).drop 16).take 4 = leB 4 retW := by
  unfold fillP trapP
  rw [List.append_assoc, List.append_assoc]
  rw [List.drop_left' (by simp [leB_length])]
  exact List.take_left' (leB_length 4 retW)
theorem load_at (write : Nat) (p : List Nat) {pc : Nat} (h : pc < 256) (h4 : pc % 4 = 0) : loadL (someM 1 write p [] 32) 0 pc 4 = some (ofB ((((fillP p).drop pc).take 4).take 8)) := by
  have hne : (someM 1 write p [] 32).p 0 ≠ [] := by
    rw [someM_0]
    intro e
    have := congrArg List.length e
    simp [fillP] at this
    rw [this.1] at this
    simp at this
  unfold loadL placeL
  rw [if_neg (by omega), if_pos rfl]
  have e1 : pc / 256 = 0 := by omega
  have e2 : pc % 256 = pc := by omega
  simp only [e1, e2]
  rw [if_neg (by omega), if_neg hne]
  unfold Me.seg
  rw [someM_0]
theorem load_no (write : Nat) (p : List Nat) {a : Nat} (h : 256 ≤ a) (n : Nat) : loadL (someM 1 write p [] 32) 0 a n = none := by
  unfold loadL placeL
  by_cases h1 : 32 ≤ a / 256
  · rw [if_pos h1]
  · rw [if_neg h1, if_pos rfl]
    dsimp only
    split
    · rfl
    · rw [if_pos (someM_1 write p (by omega))]
theorem trap_first {bad : Nat} (hb : bad < 2 ^ 32) : loadL (someM 1 0 (trapP bad) [] 32) 0 0 4 = some bad := by
  rw [load_at 0 _ (by omega) (by omega), take4_fill, List.take_of_length_le (by rw [leB_length]; omega), ofB_leB]
  rw [Nat.mod_eq_of_lt (by omega)]
theorem trap_second (bad : Nat) : loadL (someM 1 0 (trapP bad) [] 32) 0 16 4 = some retW := by
  rw [load_at 0 _ (by omega) (by omega), take4_fill16]
  rfl
theorem trap_code {bad : Nat} (hb : bad < 2 ^ 32) (hc : dC bad = 23) (r2 : Nat) : stepL (trapX r2) (someM 1 0 (trapP bad) [] 32) 0 0 = ⟨trapY r2 1 bad, someM 1 0 (trapP bad) [] 32, 1, 1⟩ := by
  have hd : decOk bad = false := by
    unfold decOk rightB
    rw [hc]
    simp
  have h1 : loadL (someM 1 0 (trapP bad) [] 32) ((trapX r2).r.getD 17 0) ((trapX r2).r.getD 16 0) 4 = some bad := trap_first hb
  unfold stepL
  rw [if_neg (by simp [trapX]), if_neg (by simp [nextB, trapX]), h1]
  dsimp only
  rw [if_neg (by rw [hd]; simp)]
  rfl
theorem trap_load {a : Nat} (ha : 256 ≤ a) (h2 : a < 2 ^ 64) : stepL (trapX a) (someM 1 0 (trapP (wordF 12 1 2 0 0)) [] 32) 0 0 = ⟨trapY a 3 a, someM 1 0 (trapP (wordF 12 1 2 0 0)) [] 32, 1, 3⟩ := by
  have h1 : loadL (someM 1 0 (trapP (wordF 12 1 2 0 0)) [] 32) ((trapX a).r.getD 17 0) ((trapX a).r.getD 16 0) 4 = some (wordF 12 1 2 0 0) := trap_first (by decide +kernel)
  have hd : decOk (wordF 12 1 2 0 0) = true := by decide +kernel
  have ec : dC (wordF 12 1 2 0 0) = 12 ∧ dA (wordF 12 1 2 0 0) = 1 ∧ dB (wordF 12 1 2 0 0) = 2 ∧ dD (wordF 12 1 2 0 0) = 0 ∧ dN (wordF 12 1 2 0 0) = 0 := by decide +kernel
  unfold stepL
  rw [if_neg (by simp [trapX]), if_neg (by simp [nextB, trapX]), h1]
  dsimp only
  rw [if_pos hd, ec.1, ec.2.1, ec.2.2.1, ec.2.2.2.1, ec.2.2.2.2]
  have e2 : addN ((trapX a).r.getD 2 0) (kN 0) = a := by
    show addN a (kN 0) = a
    have : kN 0 = 0 := by decide +kernel
    rw [this]
    unfold addN
    omega
  have e3 : loadL (someM 1 0 (trapP (wordF 12 1 2 0 0)) [] 32) ((trapX a).r.getD 17 0) a 8 = none := load_no 0 _ ha 8
  unfold doL
  rw [if_neg (by decide), if_neg (by decide), if_neg (by decide), if_neg (by decide), if_pos rfl, e2, e3]
  rfl
theorem trap_back {bad : Nat} (r2 c a : Nat) : stepL (trapY r2 c a) (someM 1 0 (trapP bad) [] 32) 0 0 = ⟨trapZ r2 c a, someM 1 0 (trapP bad) [] 32, 0, 0⟩ := by
  have h1 : loadL (someM 1 0 (trapP bad) [] 32) ((trapY r2 c a).r.getD 17 0) ((trapY r2 c a).r.getD 16 0) 4 = some retW := trap_second bad
  have hd : decOk retW = true := by decide +kernel
  have ec : dC retW = 22 := by decide +kernel
  unfold stepL
  rw [if_neg (by simp [trapY]), if_neg (by simp [nextB, trapY]), h1]
  dsimp only
  rw [if_pos hd, ec]
  unfold doL
  rw [if_neg (by decide), if_neg (by decide), if_neg (by decide), if_neg (by decide), if_neg (by decide), if_neg (by decide), if_neg (by decide), if_neg (by decide), if_neg (by decide), if_neg (by decide), if_neg (by decide), if_neg (by decide), if_pos rfl]
  rfl
def sumX (a b c pc st : Nat) : Se := ⟨[0, a, b, c, 0, 0, 0, 0, 0, 0, 0, 0, 0, 0, 0, 0, pc, 0, 0, 0, 0, 0], false, st, 0, 0⟩
def sumW (f : Int) (k : Nat) : List Nat := [wordF 1 1 0 0 0, wordF 1 2 0 0 f, wordF 1 3 0 0 k, wordF 14 3 0 0 5, wordF 3 1 1 2 0, wordF 11 2 2 0 1, wordF 11 3 3 0 (-1), wordF 14 10 10 0 (-4), wordF 21 0 0 0 0]
def sumPg (f : Int) (k : Nat) : List Nat := (sumW f k).flatMap (leB 4)
theorem flat_at (l rest : List Nat) (i v : Nat) (h : l[i]? = some v) : ((l.flatMap (leB 4) ++ rest).drop (4 * i)).take 4 = leB 4 v := by
  induction l generalizing i with
  | nil => simp at h
  | cons y l ih =>
    rw [List.flatMap_cons, List.append_assoc]
    cases i with
    | zero =>
      simp only [List.getElem?_cons_zero, Option.some.injEq] at h
      subst h
      rw [Nat.mul_zero, List.drop_zero]
      exact List.take_left' (leB_length 4 y)
    | succ i =>
      rw [show 4 * (i + 1) = (leB 4 y).length + 4 * i by rw [leB_length]; omega, List.drop_length_add_append]
      exact ih i (by simpa using h)
def sumM (f : Int) (k : Nat) : Me := someM 1 0 (sumPg f k) [] 32
theorem sum_load {f : Int} {k i v : Nat} (h : (sumW f k)[i]? = some v) (hv : v < 2 ^ 32) : loadL (sumM f k) 0 (4 * i) 4 = some v := by
  have hi : i < 9 := by
    rcases Nat.lt_or_ge i 9 with h1 | h1
    · exact h1
    · rw [List.getElem?_eq_none (by simpa [sumW] using h1)] at h; cases h
  unfold sumM
  rw [load_at 0 _ (by omega) (by omega)]
  unfold fillP sumPg
  rw [flat_at _ _ _ _ h, List.take_of_length_le (by rw [leB_length]; omega), ofB_leB, Nat.mod_eq_of_lt (by omega)]
theorem sum_step {f : Int} {k i : Nat} {x : Se} {c a b d : Nat} {n : Int} (h : (sumW f k)[i]? = some (wordF c a b d n)) (hr : rightB c a b d n = true) (hn : -32768 ≤ n ∧ n ≤ 32767)
    (hs : x.st = 0) (ho : x.op = false) (h17 : x.r.getD 17 0 = 0) (h16 : x.r.getD 16 0 = 4 * i) : stepL x (sumM f k) 0 0 = doL x (sumM f k) 0 0 c a b d n := by
  have hd := decOk_enc hr hn
  obtain ⟨e1, e2, e3, e4, e5⟩ := dec_enc hr hn
  unfold stepL
  rw [if_neg (by simp [hs]), if_neg (by simp [nextB, ho]), h17, h16, sum_load h (wordF_lt hr)]
  dsimp only
  rw [if_pos hd, e1, e2, e3, e4, e5]
theorem kN_nat {k : Nat} (h : k < 2 ^ 64) : kN (k : Int) = k := by unfold kN; rw [wrap_u64]; omega
def bN (f : Int) (j : Nat) : Nat := addN (kN f) j
def sN (f : Int) : Nat → Nat
  | 0 => 0
  | j + 1 => addN (sN f j) (bN f j)
theorem sN_lt (f : Int) (j : Nat) : sN f j < 2 ^ 64 := by
  cases j with
  | zero => exact Nat.two_pow_pos 64
  | succ j => exact addN_lt _ _
theorem bN_succ (f : Int) (j : Nat) : addN (bN f j) 1 = bN f (j + 1) := by unfold bN addN; omega
theorem s_li0 (f : Int) (k : Nat) : stepL (sumX 0 0 0 0 0) (sumM f k) 0 0 = ⟨sumX 0 0 0 4 0, sumM f k, 0, 0⟩ := by
  rw [sum_step (i := 0) (c := 1) (a := 1) (b := 0) (d := 0) (n := 0) rfl (by decide) (by decide) rfl rfl rfl rfl]
  unfold doL
  rw [if_pos rfl, show kN 0 = 0 by decide +kernel]
  rfl
theorem s_li1 {f : Int} (hf : -32768 ≤ f ∧ f ≤ 32767) (k : Nat) : stepL (sumX 0 0 0 4 0) (sumM f k) 0 0 = ⟨sumX 0 (kN f) 0 8 0, sumM f k, 0, 0⟩ := by
  rw [sum_step (i := 1) (c := 1) (a := 2) (b := 0) (d := 0) (n := f) rfl (by unfold rightB oneB; simp [fA, fB, fC, fN]) hf rfl rfl rfl rfl]
  unfold doL
  rw [if_pos rfl]
  rfl
theorem s_li2 {f : Int} {k : Nat} (hk : k < 50) (b : Nat) : stepL (sumX 0 b 0 8 0) (sumM f k) 0 0 = ⟨sumX 0 b k 12 0, sumM f k, 0, 0⟩ := by
  rw [sum_step (i := 2) (c := 1) (a := 3) (b := 0) (d := 0) (n := k) rfl (by unfold rightB oneB; simp [fA, fB, fC, fN]) (by omega) rfl rfl rfl rfl]
  unfold doL
  rw [if_pos rfl, kN_nat (by omega)]
  rfl
theorem s_out (f : Int) (k a b : Nat) : stepL (sumX a b 0 12 0) (sumM f k) 0 0 = ⟨sumX a b 0 32 0, sumM f k, 0, 0⟩ := by
  rw [sum_step (i := 3) (c := 14) (a := 3) (b := 0) (d := 0) (n := 5) rfl (by decide) (by decide) rfl rfl rfl rfl]
  unfold doL
  rw [if_neg (by decide), if_neg (by decide), if_neg (by decide), if_neg (by decide), if_neg (by decide), if_neg (by decide), if_pos (by decide), if_pos (by rfl)]
  rw [show jmpN ((sumX a b 0 12 0).r.getD 16 0) (kN 5) = 32 from by show jmpN 12 (kN 5) = 32; decide +kernel]
  rfl
theorem s_in (f : Int) (k a b : Nat) {c : Nat} (h : c ≠ 0) : stepL (sumX a b c 12 0) (sumM f k) 0 0 = ⟨sumX a b c 16 0, sumM f k, 0, 0⟩ := by
  rw [sum_step (i := 3) (c := 14) (a := 3) (b := 0) (d := 0) (n := 5) rfl (by decide) (by decide) rfl rfl rfl rfl]
  unfold doL
  have ht : ¬ takenB 14 ((sumX a b c 12 0).r.getD 3 0) ((sumX a b c 12 0).r.getD 0 0) = true := by
    show ¬ takenB 14 c 0 = true
    unfold takenB
    simp [h]
  rw [if_neg (by decide), if_neg (by decide), if_neg (by decide), if_neg (by decide), if_neg (by decide), if_neg (by decide), if_pos (by decide), if_neg ht]
  rfl
theorem sumN3 (a b : Nat) : sumN 3 a b = addN a b := by
  unfold sumN
  rw [show sumI 3 a b = IntKind.u64.wrap ((a : Int) + b) from rfl, wrap_wrap, add_wrap]
  rfl
theorem s_add (f : Int) (k a b c : Nat) : stepL (sumX a b c 16 0) (sumM f k) 0 0 = ⟨sumX (addN a b) b c 20 0, sumM f k, 0, 0⟩ := by
  rw [sum_step (i := 4) (c := 3) (a := 1) (b := 1) (d := 2) (n := 0) rfl (by decide) (by decide) rfl rfl rfl rfl]
  unfold doL
  rw [if_neg (by decide), if_neg (by decide), if_pos (by decide), show sumN 3 ((sumX a b c 16 0).r.getD 1 0) ((sumX a b c 16 0).r.getD 2 0) = addN a b from sumN3 a b]
  rfl
theorem s_inc (f : Int) (k a b c : Nat) : stepL (sumX a b c 20 0) (sumM f k) 0 0 = ⟨sumX a (addN b 1) c 24 0, sumM f k, 0, 0⟩ := by
  rw [sum_step (i := 5) (c := 11) (a := 2) (b := 2) (d := 0) (n := 1) rfl (by decide) (by decide) rfl rfl rfl rfl]
  unfold doL
  rw [if_neg (by decide), if_neg (by decide), if_neg (by decide), if_pos rfl, show kN 1 = 1 by decide +kernel]
  rfl
theorem s_dec (f : Int) (k a b : Nat) {c : Nat} (h : c + 1 < 2 ^ 64) : stepL (sumX a b (c + 1) 24 0) (sumM f k) 0 0 = ⟨sumX a b c 28 0, sumM f k, 0, 0⟩ := by
  rw [sum_step (i := 6) (c := 11) (a := 3) (b := 3) (d := 0) (n := -1) rfl (by decide) (by decide) rfl rfl rfl rfl]
  unfold doL
  have e : addN ((sumX a b (c + 1) 24 0).r.getD 3 0) (kN (-1)) = c := by
    show addN (c + 1) (kN (-1)) = c
    rw [show kN (-1) = 18446744073709551615 by decide +kernel]
    unfold addN
    omega
  rw [if_neg (by decide), if_neg (by decide), if_neg (by decide), if_pos rfl, e]
  rfl
theorem s_back (f : Int) (k a b c : Nat) : stepL (sumX a b c 28 0) (sumM f k) 0 0 = ⟨sumX a b c 12 0, sumM f k, 0, 0⟩ := by
  rw [sum_step (i := 7) (c := 14) (a := 10) (b := 10) (d := 0) (n := -4) rfl (by decide) (by decide) rfl rfl rfl rfl]
  unfold doL
  rw [if_neg (by decide), if_neg (by decide), if_neg (by decide), if_neg (by decide), if_neg (by decide), if_neg (by decide), if_pos (by decide), if_pos (by rfl)]
  rw [show jmpN ((sumX a b c 28 0).r.getD 16 0) (kN (-4)) = 12 from by show jmpN 28 (kN (-4)) = 12; decide +kernel]
  rfl
theorem s_wfi (f : Int) (k a b c : Nat) : stepL (sumX a b c 32 0) (sumM f k) 0 0 = ⟨sumX a b c 36 1, sumM f k, 3, 0⟩ := by
  rw [sum_step (i := 8) (c := 21) (a := 0) (b := 0) (d := 0) (n := 0) rfl (by decide) (by decide) rfl rfl rfl rfl]
  unfold doL
  rw [if_neg (by decide), if_neg (by decide), if_neg (by decide), if_neg (by decide), if_neg (by decide), if_neg (by decide), if_neg (by decide), if_neg (by decide), if_neg (by decide), if_neg (by decide), if_neg (by decide), if_pos rfl, if_pos (show (sumX a b c 32 0).pe &&& (sumX a b c 32 0).ma = 0 from show 0 &&& 0 = 0 by decide)]
  rfl
theorem sumX_ok {a b c pc st : Nat} (ha : a < 2 ^ 64) (hb : b < 2 ^ 64) (hc : c < 2 ^ 64) (hp : pc < 2 ^ 64) (hs : st < 256) : (sumX a b c pc st).Ok := by
  refine ⟨rfl, ?_, hs, Nat.two_pow_pos 32, Nat.two_pow_pos 32⟩
  intro y hy
  simp only [sumX, List.mem_cons, List.not_mem_nil, or_false] at hy
  omega
/-- The seat behind so many steps. -/
def runS (f : Int) (k : Nat) : Nat → Se
  | 0 => sumX 0 0 0 0 0
  | i + 1 => (stepL (runS f k i) (sumM f k) 0 0).x
theorem run_at3 {f : Int} (hf : -32768 ≤ f ∧ f ≤ 32767) {k : Nat} (hk : k < 50) (j : Nat) (hj : j ≤ k) :
    runS f k (3 + 5 * j) = sumX (sN f j) (bN f j) (k - j) 12 0 ∧ (j < k → runS f k (4 + 5 * j) = sumX (sN f j) (bN f j) (k - j) 16 0 ∧ runS f k (5 + 5 * j) = sumX (sN f (j + 1)) (bN f j) (k - j) 20 0 ∧
      runS f k (6 + 5 * j) = sumX (sN f (j + 1)) (bN f (j + 1)) (k - j) 24 0 ∧ runS f k (7 + 5 * j) = sumX (sN f (j + 1)) (bN f (j + 1)) (k - (j + 1)) 28 0) := by
  have tail : ∀ j, j < k → runS f k (3 + 5 * j) = sumX (sN f j) (bN f j) (k - j) 12 0 → (runS f k (4 + 5 * j) = sumX (sN f j) (bN f j) (k - j) 16 0 ∧ runS f k (5 + 5 * j) = sumX (sN f (j + 1)) (bN f j) (k - j) 20 0 ∧
      runS f k (6 + 5 * j) = sumX (sN f (j + 1)) (bN f (j + 1)) (k - j) 24 0 ∧ runS f k (7 + 5 * j) = sumX (sN f (j + 1)) (bN f (j + 1)) (k - (j + 1)) 28 0) := by
    intro j hj h3
    have h4 : runS f k (4 + 5 * j) = sumX (sN f j) (bN f j) (k - j) 16 0 := by
      rw [show 4 + 5 * j = (3 + 5 * j) + 1 by omega]
      unfold runS
      rw [h3, s_in f k _ _ (by omega)]
    have h5 : runS f k (5 + 5 * j) = sumX (sN f (j + 1)) (bN f j) (k - j) 20 0 := by
      rw [show 5 + 5 * j = (4 + 5 * j) + 1 by omega]
      unfold runS
      rw [h4, s_add]
      rfl
    have h6 : runS f k (6 + 5 * j) = sumX (sN f (j + 1)) (bN f (j + 1)) (k - j) 24 0 := by
      rw [show 6 + 5 * j = (5 + 5 * j) + 1 by omega]
      unfold runS
      rw [h5, s_inc, bN_succ]
    have h7 : runS f k (7 + 5 * j) = sumX (sN f (j + 1)) (bN f (j + 1)) (k - (j + 1)) 28 0 := by
      rw [show 7 + 5 * j = (6 + 5 * j) + 1 by omega]
      unfold runS
      rw [h6, show k - j = (k - (j + 1)) + 1 by omega, s_dec f k _ _ (by omega)]
    exact ⟨h4, h5, h6, h7⟩
  suffices h : runS f k (3 + 5 * j) = sumX (sN f j) (bN f j) (k - j) 12 0 from ⟨h, fun hl => tail j hl h⟩
  induction j with
  | zero =>
    show (stepL (stepL (stepL (sumX 0 0 0 0 0) (sumM f k) 0 0).x (sumM f k) 0 0).x (sumM f k) 0 0).x = _
    rw [s_li0, s_li1 hf, s_li2 hk]
    show sumX 0 (kN f) k 12 0 = sumX 0 (addN (kN f) 0) k 12 0
    rw [show addN (kN f) 0 = kN f from by have := kN_lt f; unfold addN; omega]
  | succ j ih =>
    have h7 := (tail j (by omega) (ih (by omega))).2.2.2
    rw [show 3 + 5 * (j + 1) = (7 + 5 * j) + 1 by omega]
    unfold runS
    rw [h7, s_back]
structure GoodS (f : Int) (k i : Nat) : Prop where
  ok : (runS f k i).Ok
  o8 : (runS f k i).Ok8
  m : (stepL (runS f k i) (sumM f k) 0 0).M = sumM f k
  d : i < 4 + 5 * k → (stepL (runS f k i) (sumM f k) 0 0).k = 0
theorem good_of {f : Int} {k i a b c pc : Nat} (h : runS f k i = sumX a b c pc 0) (ha : a < 2 ^ 64) (hb : b < 2 ^ 64) (hc : c < 2 ^ 64) (hp : pc < 2 ^ 64) {x : Se} {q : Nat} (hs : stepL (sumX a b c pc 0) (sumM f k) 0 0 = ⟨x, sumM f k, q, 0⟩) (hq : i < 4 + 5 * k → q = 0) : GoodS f k i :=
  ⟨by rw [h]; exact sumX_ok ha hb hc hp (by decide), by rw [h]; exact ⟨show 0 < 256 by decide, show 0 < 256 by decide⟩, by rw [h, hs], by rw [h, hs]; exact hq⟩
theorem good_all {f : Int} (hf : -32768 ≤ f ∧ f ≤ 32767) {k : Nat} (hk : k < 50) (i : Nat) (hi : i < 5 + 5 * k) : GoodS f k i := by
  rcases Nat.lt_or_ge i 3 with h3 | h3
  · rcases (show i = 0 ∨ i = 1 ∨ i = 2 by omega) with rfl | rfl | rfl
    · exact good_of rfl (by decide) (by decide) (by decide) (by decide) (s_li0 f k) (fun _ => rfl)
    · exact good_of (a := 0) (b := 0) (c := 0) (pc := 4) (by show (stepL _ _ _ _).x = _; unfold runS; rw [s_li0]) (by decide) (by decide) (by decide) (by decide) (s_li1 hf k) (fun _ => rfl)
    · exact good_of (a := 0) (b := kN f) (c := 0) (pc := 8) (by show (stepL (stepL (sumX 0 0 0 0 0) (sumM f k) 0 0).x _ _ _).x = _; rw [s_li0, s_li1 hf]) (by decide) (kN_lt f) (by decide) (by decide) (s_li2 hk _) (fun _ => rfl)
  · obtain ⟨j, t, ht, rfl⟩ : ∃ j t, t < 5 ∧ i = 3 + t + 5 * j := ⟨(i - 3) / 5, (i - 3) % 5, by omega, by omega⟩
    have hj : j ≤ k := by omega
    obtain ⟨r3, rt⟩ := run_at3 hf hk j hj
    have b0 : bN f j < 2 ^ 64 := addN_lt _ _
    have b1 : bN f (j + 1) < 2 ^ 64 := addN_lt _ _
    rcases Nat.lt_or_ge j k with hl | hl
    · obtain ⟨r4, r5, r6, r7⟩ := rt hl
      rcases (show t = 0 ∨ t = 1 ∨ t = 2 ∨ t = 3 ∨ t = 4 by omega) with rfl | rfl | rfl | rfl | rfl
      · exact good_of r3 (sN_lt f j) b0 (by omega) (by decide) (s_in f k _ _ (by omega)) (fun _ => rfl)
      · exact good_of r4 (sN_lt f j) b0 (by omega) (by decide) (s_add f k _ _ _) (fun _ => rfl)
      · exact good_of r5 (sN_lt f _) b0 (by omega) (by decide) (s_inc f k _ _ _) (fun _ => rfl)
      · have e : k - j = (k - (j + 1)) + 1 := by omega
        rw [e] at r6
        exact good_of r6 (sN_lt f _) b1 (by omega) (by decide) (s_dec f k _ _ (by omega)) (fun _ => rfl)
      · exact good_of r7 (sN_lt f _) b1 (by omega) (by decide) (s_back f k _ _ _) (fun _ => rfl)
    · have e : j = k := by omega
      subst e
      rw [Nat.sub_self] at r3
      rcases (show t = 0 ∨ t = 1 by omega) with rfl | rfl
      · exact good_of r3 (sN_lt f _) b0 (by decide) (by decide) (s_out f j _ _) (fun _ => rfl)
      · have r4 : runS f j (3 + 1 + 5 * j) = sumX (sN f j) (bN f j) 0 32 0 := by
          rw [show 3 + 1 + 5 * j = (3 + 5 * j) + 1 by omega]
          unfold runS
          rw [r3, s_out]
        exact good_of r4 (sN_lt f _) b0 (by decide) (by decide) (s_wfi f j _ _ _) (fun h => by omega)
theorem run_end {f : Int} (hf : -32768 ≤ f ∧ f ≤ 32767) {k : Nat} (hk : k < 50) : runS f k (5 + 5 * k) = sumX (sN f k) (bN f k) 0 36 1 := by
  have r3 := (run_at3 hf hk k (Nat.le_refl _)).1
  rw [Nat.sub_self] at r3
  rw [show 5 + 5 * k = (3 + 5 * k) + 1 + 1 by omega]
  unfold runS
  unfold runS
  rw [r3, s_out, s_wfi]
end Go.Proofs.YtjlodddlbgpcdaaDoor.Walks
