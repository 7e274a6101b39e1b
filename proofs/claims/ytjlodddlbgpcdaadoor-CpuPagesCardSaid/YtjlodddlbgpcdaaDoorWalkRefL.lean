/- Walks through the functions of the statement, and the statement over them: each contract says what the call answers and that nothing else changes. -/
import Derived.Test.YtjlodddlbgpcdaaDoorProg
import Derived.Test.YtjlodddlbgpcdaaDoorBits
import Derived.Test.YtjlodddlbgpcdaaDoorHeap
import Derived.Test.YtjlodddlbgpcdaaDoorAid
import Derived.Test.YtjlodddlbgpcdaaDoorArr
import Derived.Test.YtjlodddlbgpcdaaDoorEql
import Derived.Test.YtjlodddlbgpcdaaDoorWalkBase
import Derived.Test.YtjlodddlbgpcdaaDoorWalkCode
import Derived.Test.YtjlodddlbgpcdaaDoorWalkSeat
import Derived.Test.YtjlodddlbgpcdaaDoorWalkRef
import Derived.Test.YtjlodddlbgpcdaaDoorWalkRefR
import Derived.Test.YtjlodddlbgpcdaaDoorWalkBus
import Derived.Test.YtjlodddlbgpcdaaDoorWalkBus2
import Derived.Test.YtjlodddlbgpcdaaDoorWalkRefP
import Derived.Test.YtjlodddlbgpcdaaDoorWalkRefG
import Derived.Lib.Hide
import Derived.WalkKit
import Derived.WalkSpells
import Derived.WalkLawsBesides
import Derived.Deep.QuietTactic
import Derived.BigQuiet
import Derived.Deep.RegionHeld3
import Derived.Deep.DeepCutAuto
import Derived.Deep.CutBlock
import Derived.Lib.SlBytesConst
import Derived.StillTailTactics
import Derived.RegionTactic
import Derived.Deep.RegionLaw
import Derived.Laws.BytesString
import Derived.Laws.MakeOwn
import Derived.Deep.AppendLies
import Derived.Laws.CopyOwn
import Derived.Maps.AppendAt
import Derived.Deep.Upon
import Derived.Deep.AppendSrc
import Derived.Shelf.Abstract
import Derived.Shelf.Spec.TrailingZeros
namespace Go.Proofs.YtjlodddlbgpcdaaDoor.Walks
set_option linter.unusedVariables false
set_option linter.unusedSimpArgs false
open Go.RowKit Go.Proofs.YtjlodddlbgpcdaaDoor.Bits Go.Proofs.YtjlodddlbgpcdaaDoor.Heap Go.Proofs.YtjlodddlbgpcdaaDoor.Aid Go.Proofs.YtjlodddlbgpcdaaDoor.Arr Go.Proofs.YtjlodddlbgpcdaaDoor.Eql

set_option maxRecDepth 8000 in
set_option maxHeartbeats 8000000 in
theorem refPut_calls {B mb : Nat} {pv : Nat → Value} {M : Me} {w : World} (x : Se) (hx : x.Ok) (s : Mm B mb pv M w) (addr v : Nat) (ha : addr < 2 ^ 64) (hv : v < 2 ^ 64) :
    Calls Tryd.prog 28 #[.agg x.cells.toArray, .pointer (some ⟨mb, 0, none⟩), .int .u64 (addr : Int), .int .u64 (v : Int)] w (SaveR B mb pv M (saveL M (x.r.getD 17 0) addr v) w) := by
  have B1 := Lib.hid (show Below w.heap.size w (w.alloc (.cells x.cells.toArray 26)) from (Below.refl _ _).alloc (Nat.le_refl _) _)
  have PC := Lib.hid (refPlace_calls x hx (s.below B1.out) addr true ha)
  have S := Lib.hid s
  have bx := Lib.hid (range_all (Blk.new w x.cells.toArray 26))
  have I26 := Lib.hid (info_se hx)
  unfold saveL
  have hai : 0 ≤ (addr : Int) := by omega
  obtain ⟨am, ham⟩ : ∃ q, addr % 8 = q := ⟨_, rfl⟩
  rw [ham]
  have PL := Lib.hid (fun p o (h : placeL M (x.r.getD 17 0) addr true = some (p, o)) => placeL_lt h)
  have FIN := Lib.hid (fun W (h : Below w.heap.size w W) => SaveR.no S.out h)
  generalize hpl : placeL M (x.r.getD 17 0) addr true = pl at *
  clear s hx hpl
  generalize x.cells = XC at *
  cases pl with
  | none =>
    dsimp only
    clear PL ham hv
    simp only [placeE] at PC
    generalize (addr : Int) = ai at *
    generalize (v : Int) = vi at *
    go_enter Tryd.func28, Tryd.ntmps28
    go_upto_region 2 with (first
      | (refine wpList_load_mid rfl 26 (.tmp 4) rfl w.heap.size 0 rfl XC _ bx.out Tryd.underlying26 rfl I26.out ?_)
      | (go_at_call 45; refine PC.out.mono ?_; rintro e w2 ⟨rfl, b2⟩; have B2 := Lib.hid (B1.out.trans (b2.mono B1.out.size)); clear b2))
    go_wp2
    go_ret
    exact FIN.out _ B2.out
  | some po =>
    obtain ⟨p, o⟩ := po
    dsimp only
    obtain ⟨p1, p2, p3⟩ := PL.out p o rfl
    simp only [placeE] at PC
    have om1 : (o : Int).tmod 8 = (am : Int) := by rw [Int.tmod_eq_emod_of_nonneg (by omega)]; omega
    have om2 : (o : Int) % 8 = (am : Int) := by omega
    have hpi : (p : Int) ≤ 31 := by omega
    have hpi0 : 0 ≤ (p : Int) := by omega
    have hoi : (o : Int) ≤ 255 := by omega
    have hoi0 : 0 ≤ (o : Int) := by omega
    clear PL
    by_cases h0 : am = 0
    · subst h0
      rw [if_neg (by simp)]
      have ho8 : o + 8 ≤ 256 := by omega
      have ho8i : (o : Int) ≤ 248 := by omega
      have C0 := Lib.hid (fun W (h : Below w.heap.size w W) => (S.out.below h).cell p1)
      have CW := Lib.hid (fun W (h : Below w.heap.size w W) => (S.out.below h).cellW p1)
      by_cases h4 : M.p p = [] ∨ M.w p = false
      · rw [if_pos h4]
        by_cases h5 : M.p p = []
        · obtain ⟨a2, cap2, hpv⟩ := S.out.none p1 h5
          rw [hpv] at C0
          clear ham hv h4 h5 p2 p3 hpv ho8
          generalize (addr : Int) = ai at *
          generalize (v : Int) = vi at *
          go_enter Tryd.func28, Tryd.ntmps28
          go_upto_region 2 with (first
            | (refine wpList_load_mid rfl 26 (.tmp 4) rfl w.heap.size 0 rfl XC _ bx.out Tryd.underlying26 rfl I26.out ?_)
            | (go_at_call 45; refine PC.out.mono ?_; rintro e w2 ⟨rfl, b2⟩; have B2 := Lib.hid (B1.out.trans (b2.mono B1.out.size)); clear b2))
          have c0 := C0.out _ B2.out
          clear C0 CW PC bx
          go_wp2
          go_ret
          exact FIN.out _ B2.out
        · obtain ⟨g, cap2, sp, hpv, _, _, _, _⟩ := S.out.page p1 ((S.out.two p1).resolve_left h5)
          rw [hpv] at C0
          have hw := h4.resolve_left h5
          rw [hw] at CW
          clear ham hv h4 h5 p2 p3 hpv ho8 hw
          generalize (addr : Int) = ai at *
          generalize (v : Int) = vi at *
          go_enter Tryd.func28, Tryd.ntmps28
          go_upto_region 2 with (first
            | (refine wpList_load_mid rfl 26 (.tmp 4) rfl w.heap.size 0 rfl XC _ bx.out Tryd.underlying26 rfl I26.out ?_)
            | (go_at_call 45; refine PC.out.mono ?_; rintro e w2 ⟨rfl, b2⟩; have B2 := Lib.hid (B1.out.trans (b2.mono B1.out.size)); clear b2))
          have c0 := C0.out _ B2.out
          have cW := CW.out _ B2.out
          clear C0 CW PC bx
          go_wp2
          go_ret
          exact FIN.out _ B2.out
      · rw [if_neg h4]
        have hpl : (M.p p).length = 256 := (S.out.two p1).resolve_left (fun e => h4 (.inl e))
        have hpw : M.w p = true := by
          cases hq : M.w p with
          | true => rfl
          | false => exact absurd (.inr hq) h4
        obtain ⟨g, cap2, sp, hpv, _, hc2, hm2, _⟩ := S.out.page p1 hpl
        rw [hpv] at C0
        rw [hpw] at CW
        have hci : (256 : Int) ≤ (cap2 : Int) := by omega
        have hci2 : (cap2 : Int) ≤ 9223372036854775807 := by unfold maxLen at hm2; omega
        have LL := leB_length 8 v
        have LT := leB_lt 8 v
        have I0 := Lib.hid (fun W (h : Below w.heap.size w W) => show SaveI B mb pv M p o (leB 8 v) W 0 W from ⟨by rw [List.take_zero, Me.put_nil]; exact S.out.below h, Keep.refl _ W⟩)
        have CS := Lib.hid (fun W0 k W (h : SaveI B mb pv M p o (leB 8 v) W0 k W) => show W.cell? ⟨mb, p, none⟩ = some (.slice (some ⟨g, 0, none⟩) 256 cap2) ∧ (∀ j, j < 256 → (∃ y : Nat, W.cell? ⟨g, j, none⟩ = some (.int .u8 (y : Int))) ∧ W.frozen? ⟨g, j, none⟩ = false) from
          ⟨by have := h.1.cell p1; rw [hpv] at this; exact this, fun j hj => h.1.byte p1 (h.len hpl (by rw [LL]; exact ho8)) hpv j hj⟩)
        have ST := Lib.hid (fun W0 k m W (h : SaveI B mb pv M p o (leB 8 v) W0 k W) (hk : k < 8) => h.step (m := m) p1 hpl hpv (by rw [LL]; exact hk) (by rw [LL]; exact ho8) LT)
        have FI := Lib.hid (fun W0 W (hW : Below w.heap.size w W0) (h : SaveI B mb pv M p o (leB 8 v) W0 8 W) => show SaveR B mb pv M (some (M.put p o (leB 8 v))) w (.returned (.bool true)) W from ⟨rfl, by have := h.1; rw [List.take_of_length_le (by rw [LL]; exact Nat.le_refl 8)] at this; exact this, (Keep.of_below hW).trans (h.2.mono (fun g _ e => ⟨p, p1, e⟩))⟩)
        have GD := Lib.hid (fun k (hk : k < 8) => show (leB 8 v).getD k 0 = v / 256 ^ k % 256 by rw [List.getD_eq_getElem?_getD, leB_get 8 v k hk]; rfl)
        have e1 : ¬ (p : Int) < 0 := by omega
        have e2 : (p : Int) < 32 := by omega
        clear ham h4 p2 p3 hpl hpw hc2 hm2 hpv LL LT FIN
        go_enter Tryd.func28, Tryd.ntmps28
        go_upto_region 2 with (first
          | (refine wpList_load_mid rfl 26 (.tmp 4) rfl w.heap.size 0 rfl XC _ bx.out Tryd.underlying26 rfl I26.out ?_)
          | (go_at_call 45; refine PC.out.mono ?_; rintro e w2 ⟨rfl, b2⟩; have B2 := Lib.hid (B1.out.trans (b2.mono B1.out.size)); clear b2))
        have c0 := C0.out _ B2.out
        have cW := CW.out _ B2.out
        have J0 := Lib.hid (I0.out _ B2.out)
        clear C0 CW PC bx I0
        go_upto_region 5 with (fail)
        clear c0 cW
        go_loopw [12] (fun vi wr => ∃ k : Nat, k ≤ 8 ∧ vi = .int .i64 k ∧ SaveI B mb pv M p o (leB 8 v) w2 k wr) (fun vi _ => 8 - (intOf vi).toNat)
        case atStart => exact ⟨0, Nat.zero_le _, rfl, J0.out⟩
        case round =>
          clear J0
          obtain ⟨k, hk, rfl, h⟩ := hrel
          have H := Lib.hid h
          clear h
          by_cases hlt : k < 8
          · have hki : (k : Int) < 8 := by omega
            obtain ⟨q1, q2⟩ := CS.out _ _ _ H.out
            obtain ⟨⟨y, q4⟩, q5⟩ := q2 (o + k) (by omega)
            have N := Lib.hid (ST.out _ k 1 _ H.out hlt)
            rw [GD.out k hlt] at N
            have e3 : (o : Int) + (k : Int) < 256 := by omega
            have e4 : 0 ≤ (o : Int) + (k : Int) := by omega
            have e5 : IntKind.i64.wrap ((o : Int) + (k : Int)) = (o : Int) + (k : Int) := by rw [IntKind.wrap_i64]; omega
            have e6 : 0 ≤ (k : Int) := by omega
            have e7 : IntKind.i64.wrap (8 * (k : Int)) = 8 * (k : Int) := by rw [IntKind.wrap_i64]; omega
            have e8 : IntKind.u8.wrap ((v : Int) / 2 ^ (8 * (k : Int)).toNat) = ((v / 256 ^ k % 256 : Nat) : Int) := by
              rw [show (8 * (k : Int)).toNat = 8 * k by omega, IntKind.wrap_u8, show (2 : Int) ^ (8 * k) = ((256 ^ k : Nat) : Int) by rw [Int.pow_mul]; norm_cast]
              simp
            clear CS ST FI q2 H GD
            generalize v / 256 ^ k % 256 = z at *
            go_upto_region 7 with (fail)
            go_still_tail 15, (by kernel_rfl)
            change wpList _ _ _ _ _ (World.drewN _ 1)
            go_wp2
            all_goals first
              | exact ⟨⟨k + 1, by omega, by go_num, N.out⟩, by simp only [intOf]; omega⟩
              | (rename_i hq; rw [q5] at hq; cases hq)
          · have e : k = 8 := by omega
            subst e
            have F := Lib.hid (FI.out _ _ B2.out H.out)
            clear CS ST FI H
            go_wp2
            go_ret
            exact F.out
    · rw [if_pos h0]
      have h0i : ((am : Int) == 0) = false := by simp; omega
      clear ham hv
      generalize (addr : Int) = ai at *
      generalize (v : Int) = vi at *
      go_enter Tryd.func28, Tryd.ntmps28
      go_upto_region 2 with (first
        | (refine wpList_load_mid rfl 26 (.tmp 4) rfl w.heap.size 0 rfl XC _ bx.out Tryd.underlying26 rfl I26.out ?_)
        | (go_at_call 45; refine PC.out.mono ?_; rintro e w2 ⟨rfl, b2⟩; have B2 := Lib.hid (B1.out.trans (b2.mono B1.out.size)); clear b2))
      go_wp2
      go_ret
      exact FIN.out _ B2.out
/-- Lines and masks of eight bits. -/
structure Se.Ok8 (x : Se) : Prop where
  p : x.pe < 256
  m : x.ma < 256
theorem ctz_first : ∀ m, m < 256 → ∀ k, k < 8 → m.testBit k = true → (∀ j, j < k → m.testBit j = false) → Lib.ctz 64 m = k := by decide +kernel
theorem bits_none : ∀ m, m < 256 → (∀ j, j < 8 → m.testBit j = false) → m = 0 := by decide +kernel
def lineL (x : Se) : Int := if nextB x = true then nextN x else -1
theorem line_at {x : Se} (h8 : x.Ok8) (ho : x.op = true) {k : Nat} (hk : k < 8) (h1 : x.pe.testBit k = true) (h2 : x.ma.testBit k = true) (h3 : ∀ j, j < k → (x.pe &&& x.ma).testBit j = false) : lineL x = (k : Int) := by
  have hm : x.pe &&& x.ma < 256 := Nat.and_lt_two_pow (n := 8) _ h8.m
  have hb : (x.pe &&& x.ma).testBit k = true := by rw [Nat.testBit_and, h1, h2]; rfl
  have hne : x.pe &&& x.ma ≠ 0 := fun e => by rw [e] at hb; simp at hb
  have hn : nextB x = true := by unfold nextB; rw [ho, decide_eq_true hne]; rfl
  unfold lineL
  rw [if_pos hn]
  unfold nextN
  rw [if_pos hn, ctz_first _ hm k hk hb h3]
theorem line_none {x : Se} (h8 : x.Ok8) (h : x.op = false ∨ ∀ j, j < 8 → (x.pe &&& x.ma).testBit j = false) : lineL x = -1 := by
  have hm : x.pe &&& x.ma < 256 := Nat.and_lt_two_pow (n := 8) _ h8.m
  have hn : ¬ nextB x = true := by
    unfold nextB
    rcases h with h | h
    · rw [h]; simp
    · rw [bits_none _ hm h]; simp
  unfold lineL
  rw [if_neg hn]
theorem bit_int (x m : Nat) : ((x : Int) / 2 ^ m).tmod 2 = if x.testBit m = true then 1 else 0 := by
  have e : (x : Int) / 2 ^ m = ((x / 2 ^ m : Nat) : Int) := by simp
  rw [e, Int.tmod_eq_emod_of_nonneg (Int.natCast_nonneg _), Nat.testBit_eq_decide_div_mod_eq]
  have h := Nat.mod_two_eq_zero_or_one (x / 2 ^ m)
  rcases h with h | h
  · rw [if_neg (by simp; omega)]; omega
  · rw [if_pos (by simp; omega)]; omega
set_option maxHeartbeats 4000000 in
theorem refLine_calls (x : Se) (hx : x.Ok) (h8 : x.Ok8) (w : World) :
    Calls Tryd.prog 17 #[.agg x.cells.toArray] w fun e w' => e = .returned (.int .i64 (lineL x)) ∧ Below w.heap.size w w' := by
  have B1 := Lib.hid (show Below w.heap.size w (w.alloc (.cells x.cells.toArray 26)) from (Below.refl _ _).alloc (Nat.le_refl _) _)
  have k1 := Blk.new w x.cells.toArray 26
  have c22 := k1.cellAt (i := 22) (v := .bool x.op) (by simpa using hx.g22)
  have c24 := k1.cellAt (i := 24) (v := .int .u32 (x.pe : Int)) (by simpa using hx.g24)
  have c25 := k1.cellAt (i := 25) (v := .int .u32 (x.ma : Int)) (by simpa using hx.g25)
  clear k1
  have hpe := Lib.hid (fun j => bit_int x.pe j)
  have hma := Lib.hid (fun j => bit_int x.ma j)
  have LA := Lib.hid (fun k (hk : k < 8) (ho : x.op = true) h1 h2 h3 => line_at h8 ho (k := k) hk h1 h2 h3)
  have LN := Lib.hid (fun h => line_none h8 h)
  have hp0 : 0 ≤ (x.pe : Int) := by omega
  have hm0 : 0 ≤ (x.ma : Int) := by omega
  generalize lineL x = R at *
  generalize hw1 : w.alloc (.cells x.cells.toArray 26) = w1 at *
  cases hop : x.op with
  | false =>
    rw [hop] at c22
    have L := Lib.hid (LN.out (.inl hop))
    clear LA LN hpe hma hop
    generalize x.cells = XC at *
    go_enter Tryd.func17, Tryd.ntmps17
    go_upto_region 2 with (fail)
    try simp only [hw1]
    clear hw1
    go_loopw [3] (fun vi wr => vi = .int .i64 0 ∧ wr = w1) (fun _ _ => 0)
    case atStart => exact ⟨rfl, rfl⟩
    case round =>
      obtain ⟨rfl, rfl⟩ := hrel
      go_wp2
      go_ret
      exact ⟨by rw [L.out]; rfl, B1.out⟩
  | true =>
    rw [hop] at c22
    have TB := Lib.hid (fun j => show (x.pe &&& x.ma).testBit j = (x.pe.testBit j && x.ma.testBit j) from Nat.testBit_and _ _ _)
    have LA2 := Lib.hid (fun k (hk : k < 8) h1 h2 h3 => LA.out k hk hop h1 h2 h3)
    clear LA hop
    generalize x.cells = XC at *
    go_enter Tryd.func17, Tryd.ntmps17
    go_upto_region 2 with (fail)
    try simp only [hw1]
    clear hw1
    go_loopw [3] (fun vi wr => ∃ k : Nat, k ≤ 8 ∧ vi = .int .i64 k ∧ wr = w1 ∧ ∀ j, j < k → (x.pe &&& x.ma).testBit j = false) (fun vi _ => 8 - (intOf vi).toNat)
    case atStart => exact ⟨0, Nat.zero_le _, rfl, rfl, fun j hj => by omega⟩
    case round =>
      obtain ⟨k, hk, rfl, rfl, hb⟩ := hrel
      have HB := Lib.hid hb
      clear hb
      by_cases hlt : k < 8
      · have hki : (k : Int) ≤ 7 := by omega
        have hk0 : 0 ≤ (k : Int) := by omega
        have e1 := hpe.out k
        have e2 := hma.out k
        have ek : (k : Int).toNat = k := by omega
        cases h1 : x.pe.testBit k with
        | false =>
          rw [h1, if_neg (by simp)] at e1
          have NX := Lib.hid (show (x.pe &&& x.ma).testBit k = false by rw [TB.out, h1]; rfl)
          clear h1 LA2 LN TB hpe hma
          go_wp2
          all_goals exact ⟨⟨k + 1, by omega, by go_num, by first | rfl | trivial, fun j hj => by rcases Nat.lt_or_ge j k with h | h; exact HB.out j h; rw [show j = k by omega]; exact NX.out⟩, by simp only [intOf]; omega⟩
        | true =>
          cases h2 : x.ma.testBit k with
          | false =>
            rw [h1, if_pos rfl] at e1
            rw [h2, if_neg (by simp)] at e2
            have NX := Lib.hid (show (x.pe &&& x.ma).testBit k = false by rw [TB.out, h2, Bool.and_false])
            clear h1 h2 LA2 LN TB hpe hma
            go_wp2
            all_goals exact ⟨⟨k + 1, by omega, by go_num, by first | rfl | trivial, fun j hj => by rcases Nat.lt_or_ge j k with h | h; exact HB.out j h; rw [show j = k by omega]; exact NX.out⟩, by simp only [intOf]; omega⟩
          | true =>
            have L := Lib.hid (LA2.out k hlt h1 h2 HB.out)
            rw [h1, if_pos rfl] at e1
            rw [h2, if_pos rfl] at e2
            clear h1 h2 LA2 LN TB hpe hma
            go_wp2
            go_ret
            exact ⟨by rw [L.out]; rfl, B1.out⟩
      · have e : k = 8 := by omega
        subst e
        have L := Lib.hid (LN.out (.inr HB.out))
        clear LA2 LN TB hpe hma
        go_wp2
        go_ret
        exact ⟨by rw [L.out]; rfl, B1.out⟩
end Go.Proofs.YtjlodddlbgpcdaaDoor.Walks
