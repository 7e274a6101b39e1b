/- Walks through the functions of the statement, and the statement over them: each contract says what the call answers and that nothing else changes. -/
import Derived.Test.YtjlodddlbgpcdaaDoorProg
import Derived.Test.YtjlodddlbgpcdaaDoorBits
import Derived.Test.YtjlodddlbgpcdaaDoorHeap
import Derived.Test.YtjlodddlbgpcdaaDoorAid
import Derived.Test.YtjlodddlbgpcdaaDoorArr
import Derived.Test.YtjlodddlbgpcdaaDoorEql
import Derived.Test.YtjlodddlbgpcdaaDoorWalkBase
import Derived.Test.YtjlodddlbgpcdaaDoorWalkCode
import Derived.Test.YtjlodddlbgpcdaaDoorWalkSeat
import Derived.Test.YtjlodddlbgpcdaaDoorWalkRef
import Derived.Test.YtjlodddlbgpcdaaDoorWalkRefR
import Derived.Test.YtjlodddlbgpcdaaDoorWalkBus
import Derived.Test.YtjlodddlbgpcdaaDoorWalkBus2
import Derived.Test.YtjlodddlbgpcdaaDoorWalkRefP
import Derived.Test.YtjlodddlbgpcdaaDoorWalkRefG
import Derived.Test.YtjlodddlbgpcdaaDoorWalkRefL
import Derived.Test.YtjlodddlbgpcdaaDoorWalkDo
import Derived.Test.YtjlodddlbgpcdaaDoorWalkDo2
import Derived.Test.YtjlodddlbgpcdaaDoorWalkStep
import Derived.Test.YtjlodddlbgpcdaaDoorWalkSome
import Derived.Test.YtjlodddlbgpcdaaDoorWalkAwake
import Derived.Test.YtjlodddlbgpcdaaDoorWalkNil
import Derived.Test.YtjlodddlbgpcdaaDoorWalkPl
import Derived.Test.YtjlodddlbgpcdaaDoorWalkRs0
import Derived.Test.YtjlodddlbgpcdaaDoorWalkRs1
import Derived.Test.YtjlodddlbgpcdaaDoorWalkRs2
import Derived.Test.YtjlodddlbgpcdaaDoorWalkRs3
import Derived.Test.YtjlodddlbgpcdaaDoorWalkRs4
import Derived.Test.YtjlodddlbgpcdaaDoorWalkRsA
import Derived.Test.YtjlodddlbgpcdaaDoorWalkBoth
import Derived.Test.YtjlodddlbgpcdaaDoorWalkRaw
import Derived.Test.YtjlodddlbgpcdaaDoorWalkRuns
import Derived.Test.YtjlodddlbgpcdaaDoorWalkOne
import Derived.Test.YtjlodddlbgpcdaaDoorWalkTraps
import Derived.Lib.Hide
import Derived.WalkKit
import Derived.WalkSpells
import Derived.WalkLawsBesides
import Derived.Deep.QuietTactic
import Derived.BigQuiet
import Derived.Deep.RegionHeld3
import Derived.Deep.DeepCutAuto
import Derived.Deep.CutBlock
import Derived.Lib.SlBytesConst
import Derived.StillTailTactics
import Derived.RegionTactic
import Derived.Deep.RegionLaw
import Derived.Laws.BytesString
import Derived.Laws.MakeOwn
import Derived.Deep.AppendLies
import Derived.Laws.CopyOwn
import Derived.Maps.AppendAt
import Derived.Deep.Upon
import Derived.Deep.AppendSrc
import Derived.Shelf.Abstract
import Derived.Shelf.Spec.TrailingZeros
namespace Go.Proofs.YtjlodddlbgpcdaaDoor.Walks
set_option linter.unusedVariables false
set_option linter.unusedSimpArgs false
open Go.RowKit Go.Proofs.YtjlodddlbgpcdaaDoor.Bits Go.Proofs.YtjlodddlbgpcdaaDoor.Heap Go.Proofs.YtjlodddlbgpcdaaDoor.Aid Go.Proofs.YtjlodddlbgpcdaaDoor.Arr Go.Proofs.YtjlodddlbgpcdaaDoor.Eql

/-- The post of a panic does not hang on the frame: said once. -/
theorem quiet_post {P : Program} {md : Region.Mode} {ops : Array Oper} {Q : Exit → Act → World → Prop} {S : World → Prop} {f : Nat} {l : Array Bool} {a : Act} {w : World}
    (h0 : ∀ c (a : Act) (d : Option Tmp) (v : Value) (w : World), Q (.panic c) (a.put d v) w → Q (.panic c) a w)
    (h : (∀ c (a : Act) (d : Option Tmp) (v : Value) (w : World), Q (.panic c) (a.put d v) w → Q (.panic c) a w) → wpAnyH P md ops Q S f l a w) : wpAnyH P md ops Q S f l a w := h h0
def enc32 (n : Nat) : Value := .int .u32 (n : Int)
theorem sumW_lt {f : Int} {k : Nat} : ∀ y ∈ sumW f k, y < 2 ^ 32 := by
  intro y hy
  simp only [sumW, List.mem_cons, List.not_mem_nil, or_false] at hy
  rcases hy with rfl | rfl | rfl | rfl | rfl | rfl | rfl | rfl | rfl
  all_goals exact wordF_lt2 _ (by decide) (by decide) (by decide) (by decide)
theorem sumPg_len (f : Int) (k : Nat) : (sumPg f k).length = 36 := by
  have h : ∀ l : List Nat, (l.flatMap (leB 4)).length = 4 * l.length := by
    intro l
    induction l with
    | nil => rfl
    | cons x l ih => rw [List.flatMap_cons, List.length_append, leB_length, ih, List.length_cons]; omega
  unfold sumPg
  rw [h]
  rfl
theorem sumPg_lt (f : Int) (k : Nat) : ∀ y ∈ sumPg f k, y < 256 := by
  intro y hy
  unfold sumPg at hy
  obtain ⟨x, _, hx⟩ := List.mem_flatMap.1 hy
  exact leB_lt 4 x y hx
theorem flat4_len (l : List Nat) : (l.flatMap (leB 4)).length = 4 * l.length := by
  induction l with
  | nil => rfl
  | cons x l ih => rw [List.flatMap_cons, List.length_append, leB_length, ih, List.length_cons]; omega
theorem flat4_take {l : List Nat} {i v : Nat} (h : l[i]? = some v) : (l.take (i + 1)).flatMap (leB 4) = (l.take i).flatMap (leB 4) ++ leB 4 v := by
  rw [List.take_add_one, h, List.flatMap_append]
  simp
theorem sum_first (f : Int) (k : Nat) : zeroSe = runS f k 0 := rfl
theorem wrap_u8' (n : Int) : IntKind.u8.wrap n = n % 256 := by simp [IntKind.wrap, IntKind.signed, IntKind.bits]
theorem sum_line (a b c pc st : Nat) : lineL (sumX a b c pc st) = -1 := by
  unfold lineL
  rw [if_neg (by simp [nextB, sumX])]
theorem runS_succ (f : Int) (k i : Nat) : runS f k (i + 1) = (stepL (runS f k i) (sumM f k) 0 0).x := by rw [runS]
theorem sN_succ (f : Int) (j : Nat) : sN f (j + 1) = addN (sN f j) (bN f j) := by rw [sN]
theorem sN_wrap (f : Int) (j : Nat) : IntKind.u64.wrap (((sN f j : Nat) : Int) + ((bN f j : Nat) : Int)) = ((sN f (j + 1) : Nat) : Int) := by rw [sN_succ]; exact add_wrap _ _
theorem bN_wrap (f : Int) (j : Nat) : IntKind.u64.wrap (((kN f : Nat) : Int) + (j : Int)) = ((bN f j : Nat) : Int) := by unfold bN; exact add_wrap _ _
set_option maxRecDepth 8000 in
set_option maxHeartbeats 8000000 in
theorem cpuSums_walk (a0 a1 : Int) (w : World) (wa0 : (Lit.int .u8 a0).wf = true) (wa1 : (Lit.int .i16 a1).wf = true) (hT : TabAt 0 Lib.deBruijn64tab w) :
    Calls Tryd.prog 8 #[.int .u8 a0, .int .i16 a1] w fun e w' => e = .returned (.bool true) ∧ Below w.heap.size w w' := by
  obtain ⟨n, rfl, hn⟩ := Bits.wf_u8 wa0
  have hf : -32768 ≤ a1 ∧ a1 ≤ 32767 := by simp [Lit.wf, IntKind.min, IntKind.max, IntKind.signed, IntKind.bits] at wa1; omega
  have HF := Lib.hid hf
  have hk : (n : Int) % 50 = ((n % 50 : Nat) : Int) := by omega
  have K50 := Lib.hid (show n % 50 < 50 by omega)
  generalize n % 50 = k at *
  have hk0 : 0 ≤ (k : Int) := by omega
  have hk1 : (k : Int) ≤ 49 := by have := K50.out; omega
  have HT := Lib.hid hT
  clear wa0 wa1 hn hT hf
  have W1 : Hid (∀ W, Calls Tryd.prog 13 #[.int .u8 1, .int .u8 1, .int .u8 0, .int .u8 0, .int .i16 0] W fun e w' => e = .returned (.int .u32 (wordF 1 1 0 0 0 : Nat)) ∧ Below W.heap.size W w') := fun W => refWord_calls 1 1 0 0 0 (by decide) (by decide) (by decide) (by decide) W
  have W2 : Hid (∀ W, Calls Tryd.prog 13 #[.int .u8 1, .int .u8 2, .int .u8 0, .int .u8 0, .int .i16 a1] W fun e w' => e = .returned (.int .u32 (wordF 1 2 0 0 a1 : Nat)) ∧ Below W.heap.size W w') := fun W => refWord_calls 1 2 0 0 a1 (by decide) (by decide) (by decide) (by decide) W
  have W3 : Hid (∀ W, Calls Tryd.prog 13 #[.int .u8 1, .int .u8 3, .int .u8 0, .int .u8 0, .int .i16 (k : Int)] W fun e w' => e = .returned (.int .u32 (wordF 1 3 0 0 k : Nat)) ∧ Below W.heap.size W w') := fun W => refWord_calls 1 3 0 0 k (by decide) (by decide) (by decide) (by decide) W
  have W4 : Hid (∀ W, Calls Tryd.prog 13 #[.int .u8 14, .int .u8 3, .int .u8 0, .int .u8 0, .int .i16 5] W fun e w' => e = .returned (.int .u32 (wordF 14 3 0 0 5 : Nat)) ∧ Below W.heap.size W w') := fun W => refWord_calls 14 3 0 0 5 (by decide) (by decide) (by decide) (by decide) W
  have W5 : Hid (∀ W, Calls Tryd.prog 13 #[.int .u8 3, .int .u8 1, .int .u8 1, .int .u8 2, .int .i16 0] W fun e w' => e = .returned (.int .u32 (wordF 3 1 1 2 0 : Nat)) ∧ Below W.heap.size W w') := fun W => refWord_calls 3 1 1 2 0 (by decide) (by decide) (by decide) (by decide) W
  have W6 : Hid (∀ W, Calls Tryd.prog 13 #[.int .u8 11, .int .u8 2, .int .u8 2, .int .u8 0, .int .i16 1] W fun e w' => e = .returned (.int .u32 (wordF 11 2 2 0 1 : Nat)) ∧ Below W.heap.size W w') := fun W => refWord_calls 11 2 2 0 1 (by decide) (by decide) (by decide) (by decide) W
  have W7 : Hid (∀ W, Calls Tryd.prog 13 #[.int .u8 11, .int .u8 3, .int .u8 3, .int .u8 0, .int .i16 (-1)] W fun e w' => e = .returned (.int .u32 (wordF 11 3 3 0 (-1) : Nat)) ∧ Below W.heap.size W w') := fun W => refWord_calls 11 3 3 0 (-1) (by decide) (by decide) (by decide) (by decide) W
  have W8 : Hid (∀ W, Calls Tryd.prog 13 #[.int .u8 14, .int .u8 10, .int .u8 10, .int .u8 0, .int .i16 (-4)] W fun e w' => e = .returned (.int .u32 (wordF 14 10 10 0 (-4) : Nat)) ∧ Below W.heap.size W w') := fun W => refWord_calls 14 10 10 0 (-4) (by decide) (by decide) (by decide) (by decide) W
  have W9 : Hid (∀ W, Calls Tryd.prog 13 #[.int .u8 21, .int .u8 0, .int .u8 0, .int .u8 0, .int .i16 0] W fun e w' => e = .returned (.int .u32 (wordF 21 0 0 0 0 : Nat)) ∧ Below W.heap.size W w') := fun W => refWord_calls 21 0 0 0 0 (by decide) (by decide) (by decide) (by decide) W
  go_enter Tryd.func8, Tryd.ntmps8
  go_upto_region 3 with (go_at_call 10; refine (awake_calls _ HT.out).mono ?_; rintro e w0 ⟨rfl, u⟩; have B0 := Lib.hid u; clear u)
  go_upto_region 4 with (first
    | (go_at_call 13; (with_reducible refine (W1.out _).mono ?_); rintro e w1 ⟨rfl, u⟩; have B1 := Lib.hid (B0.out.trans (u.mono B0.out.size)); clear u B0)
    | (go_at_call 13; (with_reducible refine (W2.out _).mono ?_); rintro e w2 ⟨rfl, u⟩; have B2 := Lib.hid (B1.out.trans (u.mono B1.out.size)); clear u B1)
    | (go_at_call 13; (with_reducible refine (W3.out _).mono ?_); rintro e w3 ⟨rfl, u⟩; have B3 := Lib.hid (B2.out.trans (u.mono B2.out.size)); clear u B2)
    | (go_at_call 13; (with_reducible refine (W4.out _).mono ?_); rintro e w4 ⟨rfl, u⟩; have B4 := Lib.hid (B3.out.trans (u.mono B3.out.size)); clear u B3)
    | (go_at_call 13; (with_reducible refine (W5.out _).mono ?_); rintro e w5 ⟨rfl, u⟩; have B5 := Lib.hid (B4.out.trans (u.mono B4.out.size)); clear u B4)
    | (go_at_call 13; (with_reducible refine (W6.out _).mono ?_); rintro e w6 ⟨rfl, u⟩; have B6 := Lib.hid (B5.out.trans (u.mono B5.out.size)); clear u B5)
    | (go_at_call 13; (with_reducible refine (W7.out _).mono ?_); rintro e w7 ⟨rfl, u⟩; have B7 := Lib.hid (B6.out.trans (u.mono B6.out.size)); clear u B6)
    | (go_at_call 13; (with_reducible refine (W8.out _).mono ?_); rintro e w8 ⟨rfl, u⟩; have B8 := Lib.hid (B7.out.trans (u.mono B7.out.size)); clear u B7)
    | (go_at_call 13; (with_reducible refine (W9.out _).mono ?_); rintro e w9 ⟨rfl, u⟩; have B9 := Lib.hid (B8.out.trans (u.mono B8.out.size)); clear u B8))
  clear W1 W2 W3 W4 W5 W6 W7 W8 W9
  have Q10 : Hid (Own w w9.heap.size ((sumW a1 k).map enc32) 24 (w9.alloc (.cells #[.int .u32 (wordF 1 1 0 0 0 : Nat), .int .u32 (wordF 1 2 0 0 a1 : Nat), .int .u32 (wordF 1 3 0 0 k : Nat), .int .u32 (wordF 14 3 0 0 5 : Nat), .int .u32 (wordF 3 1 1 2 0 : Nat), .int .u32 (wordF 11 2 2 0 1 : Nat), .int .u32 (wordF 11 3 3 0 (-1) : Nat), .int .u32 (wordF 14 10 10 0 (-4) : Nat), .int .u32 (wordF 21 0 0 0 0 : Nat)] 24))) := Own.new B9.out #[.int .u32 (wordF 1 1 0 0 0 : Nat), .int .u32 (wordF 1 2 0 0 a1 : Nat), .int .u32 (wordF 1 3 0 0 k : Nat), .int .u32 (wordF 14 3 0 0 5 : Nat), .int .u32 (wordF 3 1 1 2 0 : Nat), .int .u32 (wordF 11 2 2 0 1 : Nat), .int .u32 (wordF 11 3 3 0 (-1) : Nat), .int .u32 (wordF 14 10 10 0 (-4) : Nat), .int .u32 (wordF 21 0 0 0 0 : Nat)] 24
  go_upto_region 5 with (fail)
  generalize w9.alloc _ = w10 at *
  generalize w9.heap.size = nl at *
  clear B9
  have SL := Lib.hid (sumW_lt (f := a1) (k := k))
  have SN := Lib.hid (show (sumW a1 k).length = 9 from rfl)
  have P10 := Lib.hid (Bs.nil Q10.out.bel)
  have LNB := Lib.hid Q10.out.lt
  generalize hsw : sumW a1 k = sw at *
  have HSW := Lib.hid hsw
  clear hsw
  generalize hnb : w10.heap.size = nb at *
  clear hnb
  obtain ⟨ii, hii, hz5, hs5, hb5⟩ := byte_info
  have HI := Lib.hid hii
  have HZ := Lib.hid hz5
  have HSz := Lib.hid hs5
  have HBy := Lib.hid hb5
  clear hii hz5 hs5 hb5
  go_upto_region 6 with (fail)
  go_loopw [6, 7] (fun pv iv wr => ∃ (i : Nat) (a : Option Addr) (cap : Nat), i ≤ 9 ∧ iv = .int .i64 i ∧ pv = .slice a (4 * i) cap ∧ Bs w nb (.slice a (4 * i) cap) ((sw.take i).flatMap (leB 4)) wr ∧ Own w nl (sw.map enc32) 24 wr) (fun _ iv _ => 9 - (intOf iv).toNat)
  case atStart => exact ⟨0, none, 0, by omega, rfl, rfl, by simpa using P10.out, Q10.out⟩
  case round =>
    obtain ⟨i, al, cl, hi, rfl, rfl, P, Q⟩ := hrel
    have P11 := Lib.hid P
    have Q11 := Lib.hid Q
    clear P Q P10 Q10
    by_cases hlt : i < 9
    · have hii0 : 0 ≤ (i : Int) := by omega
      have hii1 : (i : Int) < 9 := by omega
      have hii2 : ¬ (i : Int) < 0 := by omega
      have hii3 : (i : Int) ≤ 8 := by omega
      obtain ⟨v, hv⟩ : ∃ v, sw[i]? = some v := ⟨_, List.getElem?_eq_getElem (by rw [SN.out]; exact hlt)⟩
      have HV := Lib.hid hv
      have VL := SL.out v (List.mem_of_getElem? hv)
      have cv := Q11.out.cell (i := i) (v := .int .u32 (v : Int)) (by rw [List.getElem?_map, hv]; rfl)
      have CV := Lib.hid (show (sw.map enc32)[i]? = some (.int .u32 (v : Int)) by rw [List.getElem?_map, hv]; rfl)
      clear hv cv
      have hv0 : 0 ≤ (v : Int) := by omega
      have hv1 : (v : Int) ≤ 4294967295 := by omega
      have hb1 : IntKind.u8.wrap (v : Int) = (v : Int) % 256 := wrap_u8' _
      have hb2 : IntKind.u8.wrap ((v : Int) / 256) = (v : Int) / 256 % 256 := wrap_u8' _
      have hb3 : IntKind.u8.wrap ((v : Int) / 65536) = (v : Int) / 65536 % 256 := wrap_u8' _
      have hb4 : IntKind.u8.wrap ((v : Int) / 16777216) = (v : Int) / 16777216 := by rw [wrap_u8']; omega
      have LP := Lib.hid (show ((sw.take i).flatMap (leB 4)).length = 4 * i by rw [flat4_len, List.length_take, SN.out]; omega)
      have FT := Lib.hid (flat4_take HV.out)
      have VLL := Lib.hid VL
      clear VL
      generalize (sw.take i).flatMap (leB 4) = lp at *
      have P12 := Lib.hid (P11.out.step (below_drewN (Below.refl wr.heap.size wr) 1))
      have Q12 := Lib.hid (Q11.out.step (below_drewN (Below.refl wr.heap.size wr) 1))
      have OR := Lib.hid (show (wr.drewN 1).ownsRow nb 5 1 (.slice al (4 * i) cl) (4 * i) (lp.map enc8) from by have h := P12.out.r; rw [LP.out] at h; exact h)
      have F12 := Lib.hid (bs_four P12.out.bel VLL.out)
      go_upto_region 8 with (fail)
      refine wp_region_noPanic ?_
      refine wp_region_held_drew (S := fun w' => Own w nl (sw.map enc32) 24 w') (by kernel_rfl) Q12.out (fun hHeld => ?_)
      refine quiet_post (fun _ _ _ _ _ h => h) (fun hQ => ?_)
      have HQP := Lib.hid hQ
      clear hQ
      refine wpAnyH_take (i := 0) (oi := ⟨some 38, _, _, _, _, _⟩) (v := .slice al (4 * i) cl) rfl (by kernel_rfl) (by kernel_rfl) (by kernel_rfl) (fun c _ _ h => HQP.out c _ _ _ _ h) (Or.inl ⟨by rfl, fun w' hSw => by go_simp⟩) (by assumption) ?_
      simp only [Act.put, List.setIfInBounds_toArray, List.set_cons_zero, List.set_cons_succ]
      refine wpAnyH_take (i := 1) (oi := ⟨some 39, _, _, _, _, _⟩) (v := .slice (some ⟨nl, 0, none⟩) 9 9) rfl (by kernel_rfl) (by kernel_rfl) (by kernel_rfl) (fun c _ _ h => HQP.out c _ _ _ _ h) (Or.inl ⟨by rfl, fun w' hSw => by go_simp⟩) (by assumption) ?_
      simp only [Act.put, List.setIfInBounds_toArray, List.set_cons_zero, List.set_cons_succ]
      refine wpAnyH_take (i := 2) (oi := ⟨some 40, _, _, _, _, _⟩) (v := .int .i64 (i : Int)) rfl (by kernel_rfl) (by kernel_rfl) (by kernel_rfl) (fun c _ _ h => HQP.out c _ _ _ _ h) (Or.inl ⟨by rfl, fun w' hSw => by go_simp⟩) (by assumption) ?_
      simp only [Act.put, List.setIfInBounds_toArray, List.set_cons_zero, List.set_cons_succ]
      refine wpAnyH_take (i := 3) (oi := ⟨some 41, _, _, _, _, _⟩) (v := .pointer (some ⟨nl, i, none⟩)) rfl (by kernel_rfl) (by kernel_rfl) (by kernel_rfl) (fun c _ _ h => HQP.out c _ _ _ _ h) (Or.inl ⟨by rfl, fun w' hSw => by go_simp⟩) (by assumption) ?_
      simp only [Act.put, List.setIfInBounds_toArray, List.set_cons_zero, List.set_cons_succ]
      refine wpAnyH_take (i := 4) (oi := ⟨some 42, _, _, _, _, _⟩) (v := .int .u32 (v : Int)) rfl (by kernel_rfl) (by kernel_rfl) (by kernel_rfl) (fun c _ _ h => HQP.out c _ _ _ _ h) (Or.inl ⟨by rfl, fun w' hSw => by have q := hSw.cell CV.out; go_simp⟩) (by assumption) ?_
      simp only [Act.put, List.setIfInBounds_toArray, List.set_cons_zero, List.set_cons_succ]
      refine wpAnyH_take (i := 5) (oi := ⟨some 43, _, _, _, _, _⟩) (v := .int .u8 ((v : Int) % 256)) rfl (by kernel_rfl) (by kernel_rfl) (by kernel_rfl) (fun c _ _ h => HQP.out c _ _ _ _ h) (Or.inl ⟨by rfl, fun w' hSw => by go_simp⟩) (by assumption) ?_
      simp only [Act.put, List.setIfInBounds_toArray, List.set_cons_zero, List.set_cons_succ]
      refine wpAnyH_take (i := 6) (oi := ⟨some 44, _, _, _, _, _⟩) (v := .slice (some ⟨nl, 0, none⟩) 9 9) rfl (by kernel_rfl) (by kernel_rfl) (by kernel_rfl) (fun c _ _ h => HQP.out c _ _ _ _ h) (Or.inl ⟨by rfl, fun w' hSw => by go_simp⟩) (by assumption) ?_
      simp only [Act.put, List.setIfInBounds_toArray, List.set_cons_zero, List.set_cons_succ]
      refine wpAnyH_take (i := 7) (oi := ⟨some 45, _, _, _, _, _⟩) (v := .int .i64 (i : Int)) rfl (by kernel_rfl) (by kernel_rfl) (by kernel_rfl) (fun c _ _ h => HQP.out c _ _ _ _ h) (Or.inl ⟨by rfl, fun w' hSw => by go_simp⟩) (by assumption) ?_
      simp only [Act.put, List.setIfInBounds_toArray, List.set_cons_zero, List.set_cons_succ]
      refine wpAnyH_take (i := 8) (oi := ⟨some 46, _, _, _, _, _⟩) (v := .pointer (some ⟨nl, i, none⟩)) rfl (by kernel_rfl) (by kernel_rfl) (by kernel_rfl) (fun c _ _ h => HQP.out c _ _ _ _ h) (Or.inl ⟨by rfl, fun w' hSw => by go_simp⟩) (by assumption) ?_
      simp only [Act.put, List.setIfInBounds_toArray, List.set_cons_zero, List.set_cons_succ]
      refine wpAnyH_take (i := 9) (oi := ⟨some 47, _, _, _, _, _⟩) (v := .int .u32 (v : Int)) rfl (by kernel_rfl) (by kernel_rfl) (by kernel_rfl) (fun c _ _ h => HQP.out c _ _ _ _ h) (Or.inl ⟨by rfl, fun w' hSw => by have q := hSw.cell CV.out; go_simp⟩) (by assumption) ?_
      simp only [Act.put, List.setIfInBounds_toArray, List.set_cons_zero, List.set_cons_succ]
      refine wpAnyH_take (i := 10) (oi := ⟨some 48, _, _, _, _, _⟩) (v := .int .u32 ((v : Int) / 256)) rfl (by kernel_rfl) (by kernel_rfl) (by kernel_rfl) (fun c _ _ h => HQP.out c _ _ _ _ h) (Or.inl ⟨by rfl, fun w' hSw => by go_simp⟩) (by assumption) ?_
      simp only [Act.put, List.setIfInBounds_toArray, List.set_cons_zero, List.set_cons_succ]
      refine wpAnyH_take (i := 11) (oi := ⟨some 49, _, _, _, _, _⟩) (v := .int .u8 ((v : Int) / 256 % 256)) rfl (by kernel_rfl) (by kernel_rfl) (by kernel_rfl) (fun c _ _ h => HQP.out c _ _ _ _ h) (Or.inl ⟨by rfl, fun w' hSw => by go_simp⟩) (by assumption) ?_
      simp only [Act.put, List.setIfInBounds_toArray, List.set_cons_zero, List.set_cons_succ]
      refine wpAnyH_take (i := 12) (oi := ⟨some 50, _, _, _, _, _⟩) (v := .slice (some ⟨nl, 0, none⟩) 9 9) rfl (by kernel_rfl) (by kernel_rfl) (by kernel_rfl) (fun c _ _ h => HQP.out c _ _ _ _ h) (Or.inl ⟨by rfl, fun w' hSw => by go_simp⟩) (by assumption) ?_
      simp only [Act.put, List.setIfInBounds_toArray, List.set_cons_zero, List.set_cons_succ]
      refine wpAnyH_take (i := 13) (oi := ⟨some 51, _, _, _, _, _⟩) (v := .int .i64 (i : Int)) rfl (by kernel_rfl) (by kernel_rfl) (by kernel_rfl) (fun c _ _ h => HQP.out c _ _ _ _ h) (Or.inl ⟨by rfl, fun w' hSw => by go_simp⟩) (by assumption) ?_
      simp only [Act.put, List.setIfInBounds_toArray, List.set_cons_zero, List.set_cons_succ]
      refine wpAnyH_take (i := 14) (oi := ⟨some 52, _, _, _, _, _⟩) (v := .pointer (some ⟨nl, i, none⟩)) rfl (by kernel_rfl) (by kernel_rfl) (by kernel_rfl) (fun c _ _ h => HQP.out c _ _ _ _ h) (Or.inl ⟨by rfl, fun w' hSw => by go_simp⟩) (by assumption) ?_
      simp only [Act.put, List.setIfInBounds_toArray, List.set_cons_zero, List.set_cons_succ]
      refine wpAnyH_take (i := 15) (oi := ⟨some 53, _, _, _, _, _⟩) (v := .int .u32 (v : Int)) rfl (by kernel_rfl) (by kernel_rfl) (by kernel_rfl) (fun c _ _ h => HQP.out c _ _ _ _ h) (Or.inl ⟨by rfl, fun w' hSw => by have q := hSw.cell CV.out; go_simp⟩) (by assumption) ?_
      simp only [Act.put, List.setIfInBounds_toArray, List.set_cons_zero, List.set_cons_succ]
      refine wpAnyH_take (i := 16) (oi := ⟨some 54, _, _, _, _, _⟩) (v := .int .u32 ((v : Int) / 65536)) rfl (by kernel_rfl) (by kernel_rfl) (by kernel_rfl) (fun c _ _ h => HQP.out c _ _ _ _ h) (Or.inl ⟨by rfl, fun w' hSw => by go_simp⟩) (by assumption) ?_
      simp only [Act.put, List.setIfInBounds_toArray, List.set_cons_zero, List.set_cons_succ]
      refine wpAnyH_take (i := 17) (oi := ⟨some 55, _, _, _, _, _⟩) (v := .int .u8 ((v : Int) / 65536 % 256)) rfl (by kernel_rfl) (by kernel_rfl) (by kernel_rfl) (fun c _ _ h => HQP.out c _ _ _ _ h) (Or.inl ⟨by rfl, fun w' hSw => by go_simp⟩) (by assumption) ?_
      simp only [Act.put, List.setIfInBounds_toArray, List.set_cons_zero, List.set_cons_succ]
      refine wpAnyH_take (i := 18) (oi := ⟨some 56, _, _, _, _, _⟩) (v := .slice (some ⟨nl, 0, none⟩) 9 9) rfl (by kernel_rfl) (by kernel_rfl) (by kernel_rfl) (fun c _ _ h => HQP.out c _ _ _ _ h) (Or.inl ⟨by rfl, fun w' hSw => by go_simp⟩) (by assumption) ?_
      simp only [Act.put, List.setIfInBounds_toArray, List.set_cons_zero, List.set_cons_succ]
      refine wpAnyH_take (i := 19) (oi := ⟨some 57, _, _, _, _, _⟩) (v := .int .i64 (i : Int)) rfl (by kernel_rfl) (by kernel_rfl) (by kernel_rfl) (fun c _ _ h => HQP.out c _ _ _ _ h) (Or.inl ⟨by rfl, fun w' hSw => by go_simp⟩) (by assumption) ?_
      simp only [Act.put, List.setIfInBounds_toArray, List.set_cons_zero, List.set_cons_succ]
      refine wpAnyH_take (i := 20) (oi := ⟨some 58, _, _, _, _, _⟩) (v := .pointer (some ⟨nl, i, none⟩)) rfl (by kernel_rfl) (by kernel_rfl) (by kernel_rfl) (fun c _ _ h => HQP.out c _ _ _ _ h) (Or.inl ⟨by rfl, fun w' hSw => by go_simp⟩) (by assumption) ?_
      simp only [Act.put, List.setIfInBounds_toArray, List.set_cons_zero, List.set_cons_succ]
      refine wpAnyH_take (i := 21) (oi := ⟨some 59, _, _, _, _, _⟩) (v := .int .u32 (v : Int)) rfl (by kernel_rfl) (by kernel_rfl) (by kernel_rfl) (fun c _ _ h => HQP.out c _ _ _ _ h) (Or.inl ⟨by rfl, fun w' hSw => by have q := hSw.cell CV.out; go_simp⟩) (by assumption) ?_
      simp only [Act.put, List.setIfInBounds_toArray, List.set_cons_zero, List.set_cons_succ]
      refine wpAnyH_take (i := 22) (oi := ⟨some 60, _, _, _, _, _⟩) (v := .int .u32 ((v : Int) / 16777216)) rfl (by kernel_rfl) (by kernel_rfl) (by kernel_rfl) (fun c _ _ h => HQP.out c _ _ _ _ h) (Or.inl ⟨by rfl, fun w' hSw => by go_simp⟩) (by assumption) ?_
      simp only [Act.put, List.setIfInBounds_toArray, List.set_cons_zero, List.set_cons_succ]
      refine wpAnyH_take (i := 23) (oi := ⟨some 61, _, _, _, _, _⟩) (v := .int .u8 ((v : Int) / 16777216)) rfl (by kernel_rfl) (by kernel_rfl) (by kernel_rfl) (fun c _ _ h => HQP.out c _ _ _ _ h) (Or.inl ⟨by rfl, fun w' hSw => by go_simp⟩) (by assumption) ?_
      simp only [Act.put, List.setIfInBounds_toArray, List.set_cons_zero, List.set_cons_succ]
      refine wpAnyH_ready (rs := [24]) (by kernel_rfl) (by simp) ?_
      refine AllReadyH.cons (o := ⟨some 62, _, _, _, _, _⟩) rfl (fun K hK => ?_) AllReadyH.nil
      go_simp
      have P13 := Lib.hid (P12.out.step ((Below.refl (wr.drewN 1).heap.size (wr.drewN 1)).alloc (Nat.le_refl _) (.cells #[.int .u8 ((v : Int) % 256), .int .u8 ((v : Int) / 256 % 256), .int .u8 ((v : Int) / 65536 % 256), .int .u8 ((v : Int) / 16777216)] 5)))
      have Q13 := Lib.hid (Q12.out.step ((Below.refl (wr.drewN 1).heap.size (wr.drewN 1)).alloc (Nat.le_refl _) (.cells #[.int .u8 ((v : Int) % 256), .int .u8 ((v : Int) / 256 % 256), .int .u8 ((v : Int) / 65536 % 256), .int .u8 ((v : Int) / 16777216)] 5)))
      have R13 := Lib.hid F12.out.row
      refine hK.out _ _ Q13.out (fun hHeld => ?_)
      clear hK K
      try simp only [Act.put, List.setIfInBounds_toArray, List.set_cons_zero, List.set_cons_succ]
      refine wpAnyH_ready (rs := [25]) (by kernel_rfl) (by simp) ?_
      refine AllReadyH.cons (o := ⟨some 63, _, _, _, _, _⟩) rfl (fun K hK => ?_) AllReadyH.nil
      refine step_append_row enc8_one (by rfl) (.tmp 38) (.tmp 62) _ (by rfl) nb 5 ii _ 1 Tryd.underlying28 HI.out HZ.out HSz.out HBy.out (by rfl) (.slice al (4 * i) cl) (4 * i) (lp.map enc8) (by rfl) (sl_below OR.out ((Below.refl (wr.drewN 1).heap.size (wr.drewN 1)).alloc (Nat.le_refl _) (.cells #[.int .u8 ((v : Int) % 256), .int .u8 ((v : Int) / 256 % 256), .int .u8 ((v : Int) / 65536 % 256), .int .u8 ((v : Int) / 16777216)] 5))) (.slice (some ⟨(wr.drewN 1).heap.size, 0, none⟩) 4 4) (leB 4 v) (by rfl) R13.out (by rw [leB_length]; unfold maxLen; omega) (by rw [leB_length]; omega) P13.out.m ?_
      intro v14 w14 h14 g14 o14
      have P14 := Lib.hid (P13.out.grow (s := leB 4 v) (by rw [LP.out]; exact h14) g14)
      have Q14 := Lib.hid (Q13.out.keep (keep_grown g14) (fun e => by have := own_ge P13.out.r _ e; have := LNB.out; omega) (fun j hj e => by have := own_ge P13.out.r _ e; have := P13.out.n; omega))
      rw [leB_length] at h14
      obtain ⟨a14, c14, hv14⟩ := own_form h14
      rw [hv14] at P14 ⊢
      clear h14 g14 o14 hv14
      refine hK.out _ _ Q14.out (fun hHeld => ?_)
      clear hK K
      try simp only [Act.put, List.setIfInBounds_toArray, List.set_cons_zero, List.set_cons_succ]
      refine wpAnyH_take (i := 26) (oi := ⟨some 6, _, _, _, _, _⟩) (v := .slice a14 (4 * i + 4) c14) rfl (by kernel_rfl) (by kernel_rfl) (by kernel_rfl) (fun c _ _ h => HQP.out c _ _ _ _ h) (Or.inl ⟨by rfl, fun w' hSw => by go_simp⟩) (by assumption) ?_
      try simp only [Act.put, List.setIfInBounds_toArray, List.set_cons_zero, List.set_cons_succ]
      refine wpAnyH_done (by kernel_rfl) ?_ _
      refine NoPanic.normal ?_
      try simp only [Act.put, List.setIfInBounds_toArray, List.set_cons_zero, List.set_cons_succ]
      go_wp2
      go_roundw
      case rel => first | exact ⟨i + 1, a14, c14, by omega, by go_num, by rfl, by rw [FT.out]; exact P14.out, Q14.out⟩ | ((repeat apply Exists.intro); exact ⟨⟨i + 1, a14, c14, by omega, by go_num, by rfl, by rw [FT.out]; exact P14.out, Q14.out⟩, rfl⟩)
      case measure => simp only [intOf]; omega
    · have e : i = 9 := by omega
      subst e
      generalize wr = wf at *
      rw [List.take_of_length_le (Nat.le_of_eq SN.out), ← HSW.out, show (sumW a1 k).flatMap (leB 4) = sumPg a1 k from rfl] at P11
      have BW := Lib.hid Q11.out.bel
      clear Q11 LNB SL SN HI HZ HSz HBy
      have RP := Lib.hid P11.out.row
      have LW := Lib.hid P11.out.bel.size
      clear P11
      have SM := Lib.hid (mksome_calls 1 0 (.slice al (4 * 9) cl) (.slice none 0 0) (sumPg a1 k) [] wf RP.out (Row.nil _ _) (sumPg_lt a1 k) (by simp) (by rw [sumPg_len]; decide) (by decide))
      go_upto_region 10 with (go_at_call 14; refine SM.out.mono ?_; rintro e w8 ⟨ma, mb, pa, pb, rfl, s8⟩; have S8 := Lib.hid s8; clear s8)
      have B8 := Lib.hid (BW.out.trans (S8.out.bel.mono LW.out))
      clear SM RP BW
      rw [show someM 1 0 (sumPg a1 k) [] 32 = sumM a1 k from rfl] at S8
      have hz := zero_val
      have HZL := Lib.hid zero_ok.len
      have hzs : zeroSe.cells.toArray.size = 26 := by simpa using HZL.out
      have hzn : ¬ zeroSe.cells.toArray = #[] := fun h => by rw [h] at hzs; simp at hzs
      have I0 := Lib.hid (info_se zero_ok)
      have ZO := Lib.hid (Se.one zeroSe)
      have NS := Lib.hid (Own.newL B8.out zeroSe.cells (26 : Nat))
      go_upto_region 11 with (refine wpList_store_mid rfl 26 (.tmp 10) (.tmp 69) rfl w8.heap.size 0 zeroSe.cells.toArray rfl rfl (NS.out.there ?s1) ?s2 ?s3 ?_)
      case s1 => simp
      case s2 => simpa using I0.out
      case s3 => first | exact ZO.out | exact all_oneCell_toArray ZO.out
      have XS := Lib.hid (NS.out.setAll zeroSe.cells rfl)
      have S9 := Lib.hid (S8.out.below (below_setCells ((Below.refl w8.heap.size w8).alloc (Nat.le_refl _) (.cells zeroSe.cells.toArray 26)) (Nat.le_refl _) 0 zeroSe.cells))
      have AP := Lib.hid (S8.out.apt (Nat.le_refl _))
      have NF := Lib.hid (show ¬ Mm.F mb pb w8.heap.size from (S8.out.fresh (Nat.le_refl _)).2)
      have H8 := Lib.hid (show wf.heap.size ≤ w8.heap.size from S8.out.bel.size)
      clear NS S8 B8 hzs hzn hz
      rw [sum_first a1 k] at XS
      generalize hw9 : World.setCells _ _ _ _ = w9
      have X10 := Lib.hid (show Own w w8.heap.size (runS a1 k 0).cells 26 w9 from by rw [← hw9]; exact XS.out)
      have S10 := Lib.hid (show S2 ma mb pa pb (sumM a1 k) (sumM a1 k) wf w9 from by rw [← hw9]; exact S9.out)
      clear XS S9 hw9
      have XS := X10
      have S9 := S10
      clear X10 S10
      generalize w8.heap.size = ns at *
      have P0 := Lib.hid (S9.out.pg0 (by have := LW.out; have := tab_lt HT.out; omega))
      have L0 : 0 < ns := by have := H8.out; have := LW.out; have := tab_lt HT.out; omega
      have hwk := kN_wrap a1
      have HB := Lib.hid (fun j => bN_wrap a1 j)
      have HS := Lib.hid (fun j => sN_wrap a1 j)
      have GA := Lib.hid (show ∀ i, i < 5 + 5 * k → (runS a1 k i).Ok ∧ (stepL (runS a1 k i) (sumM a1 k) 0 0).M = sumM a1 k ∧ (i < 4 + 5 * k → (stepL (runS a1 k i) (sumM a1 k) 0 0).k = 0) from fun i hi => by have g := good_all HF.out K50.out i hi; exact ⟨g.ok, g.m, g.d⟩)
      have hf1 : -32768 ≤ a1 := HF.out.1
      have hf2 : a1 ≤ 32767 := HF.out.2
      have hf3 : wrap64 a1 = a1 := wrap64_in (by omega) (by omega)
      have RE := Lib.hid (run_end HF.out K50.out)
      have RL := Lib.hid (fun i => (runS_succ a1 k i).symm)
      have SNL := Lib.hid (sN_lt a1 k)
      have BNL := Lib.hid (show bN a1 k < 2 ^ 64 from addN_lt _ _)
      have S0 : ((sN a1 0 : Nat) : Int) = 0 := by rw [sN]; rfl
      have S0' := Lib.hid S0
      clear S0
      generalize hsn : sN a1 = sn at *
      generalize bN a1 = bn at *
      generalize kN a1 = kk at *
      generalize runS a1 k = rn at *
      generalize sumM a1 k = sm at *
      clear hsn
      go_upto_region 14 with (fail)
      go_loopw [12, 13] (fun sv jv wq => ∃ j : Nat, j ≤ k ∧ sv = .int .u64 ((sn j : Nat) : Int) ∧ jv = .int .i64 j ∧ wq = w9) (fun _ jv _ => k - (intOf jv).toNat)
      case atStart => exact ⟨0, by omega, by rw [S0'.out], rfl, rfl⟩
      case round =>
        obtain ⟨j, hj, rfl, rfl, hwq⟩ := hrel
        have HWQ := Lib.hid hwq
        clear hwq
        by_cases hjk : j < k
        · have hjk1 : (j : Int) < (k : Int) := by omega
          have hj0 : 0 ≤ (j : Int) := by omega
          have hj1 : (j : Int) ≤ 49 := by omega
          have hb := HB.out j
          have hs := HS.out j
          obtain ⟨s1, hs1⟩ : ∃ q, sn (j + 1) = q := ⟨_, rfl⟩
          obtain ⟨s0, hs0⟩ : ∃ q, sn j = q := ⟨_, rfl⟩
          obtain ⟨b0, hb0⟩ : ∃ q, bn j = q := ⟨_, rfl⟩
          rw [hs1, hs0, hb0] at hs
          rw [hb0] at hb
          have HS1 := Lib.hid hs1
          rw [hs0]
          clear hs1 hs0 hb0
          have hwj : IntKind.u64.wrap (j : Int) = (j : Int) := by rw [wrap_u64]; omega
          go_wp2
          all_goals exact ⟨⟨j + 1, by omega, by rw [HS1.out], by go_num, HWQ.out⟩, by simp only [intOf]; omega⟩
        · have e : j = k := by omega
          rw [e]
          have hjk1 : ¬ (k : Int) < (k : Int) := by omega
          clear HB HS e hjk hj S0'
          have hwq := HWQ.out
          rw [hwq]
          clear hwq HWQ
          go_upto_region 18 with (fail)
          go_loopw [14] (fun iv wq => ∃ i : Nat, i ≤ 5 + 5 * k ∧ iv = .int .i64 i ∧ Own w ns (rn i).cells 26 wq ∧ S2 ma mb pa pb sm sm wf wq) (fun iv _ => 5 + 5 * k - (intOf iv).toNat)
          case atStart => exact ⟨0, Nat.zero_le _, rfl, XS.out, S9.out⟩
          case round =>
            obtain ⟨i, hi5, rfl, X, S⟩ := hrel
            have X20 := Lib.hid X
            have S20 := Lib.hid S
            clear X S XS S9
            by_cases hlt : i < 5 + 5 * k
            · have hit : (i : Int) < 5 + 5 * (k : Int) := by omega
              have hi0 : 0 ≤ (i : Int) := by omega
              have hi1 : (i : Int) ≤ 254 := by omega
              obtain ⟨gok, gm, gd⟩ := GA.out i hlt
              have ST := Lib.hid (step_calls (rn i) gok X20.out.k S20.out.a AP.out 0 0 (by decide) (tab_below HT.out X20.out.bel) L0 P0.out)
              have RLI := Lib.hid (RL.out i)
              have GD := Lib.hid gd
              have GM := Lib.hid gm
              generalize stepL (rn i) sm 0 0 = o at *
              clear gok gm gd
              go_upto_region 21 with (go_at_call 16; refine ST.out.mono ?_; rintro e w21 ⟨rfl, db, dm, dk⟩; rw [show exitA (o.k : Int) (o.n : Int) = #[.int .u8 (o.k : Int), .int .u64 (o.n : Int)] from rfl])
              rw [RLI.out] at db
              rw [GM.out] at dm
              have X21 := Lib.hid (show Own w ns (rn (i + 1)).cells 26 w21 from ⟨Keep.belowB X20.out.bel dk X20.out.bel.size (fun j hj q => by rcases q with q | q; have := X20.out.n; omega; have := S20.out.base (.inl q); have := LW.out; omega), X20.out.n, db⟩)
              have S21 := Lib.hid (S20.out.doA H8.out NF.out dm dk)
              have X22 := Lib.hid (X21.out.alloc (.cells #[.int .u8 (o.k : Int), .int .u64 (o.n : Int)] 50))
              have S22 := Lib.hid (S21.out.below ((Below.refl w21.heap.size w21).alloc (Nat.le_refl _) (.cells #[.int .u8 (o.k : Int), .int .u64 (o.n : Int)] 50)))
              have cE := (Blk.new w21 #[.int .u8 (o.k : Int), .int .u64 (o.n : Int)] 50).cellAt (i := 0) rfl
              clear db dm dk X20 S20 ST X21 S21
              generalize w21.alloc _ = w22 at *
              by_cases h4 : i < 4 + 5 * k
              · have h4i : (i : Int) < 4 + 5 * (k : Int) := by omega
                rw [GD.out h4] at cE
                go_wp2
                all_goals exact ⟨⟨i + 1, by omega, by go_num, X22.out, S22.out⟩, by simp only [intOf]; omega⟩
              · have h4i : ¬ (i : Int) < 4 + 5 * (k : Int) := by omega
                go_wp2
                all_goals exact ⟨⟨i + 1, by omega, by go_num, X22.out, S22.out⟩, by simp only [intOf]; omega⟩
            · have e : i = 5 + 5 * k := by omega
              rw [e, RE.out] at X20
              have hit : ¬ (i : Int) < 5 + 5 * (k : Int) := by omega
              have okE := sumX_ok (a := sn k) (b := bn k) (c := 0) (pc := 36) (st := 1) SNL.out BNL.out (by decide) (by decide) (by decide)
              have LL := Lib.hid (fun W => refLine_calls (sumX (sn k) (bn k) 0 36 1) okE ⟨show 0 < 256 by decide, show 0 < 256 by decide⟩ W)
              rw [sum_line] at LL
              have IE := Lib.hid (info_se okE)
              have c1 := X20.out.cell (i := 1) (v := .int .u64 ((sn k : Nat) : Int)) rfl
              have c23 := X20.out.cell (i := 23) (v := .int .u8 1) rfl
              clear okE
              generalize (sumX (sn k) (bn k) 0 36 1).cells = EC at *
              generalize ((sn k : Nat) : Int) = si at *
              go_wp2_with (first
                | ((with_reducible refine load_gate (26) (10) ?_); refine wpList_load_w (by rfl) 26 (.tmp 10) rfl ns 0 rfl EC _ X20.out.all Tryd.underlying26 rfl IE.out ?_)
                | (go_at_call 17; refine (LL.out _).mono ?_; rintro e w24 ⟨rfl, u⟩; have X24 := Lib.hid (X20.out.step u); clear u))
              go_ret
              exact ⟨rfl, X24.out.bel⟩
end Go.Proofs.YtjlodddlbgpcdaaDoor.Walks
