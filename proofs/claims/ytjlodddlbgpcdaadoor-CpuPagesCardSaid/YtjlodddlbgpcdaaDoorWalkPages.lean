/- Walks through the functions of the statement, and the statement over them: each contract says what the call answers and that nothing else changes. -/
import Derived.Test.YtjlodddlbgpcdaaDoorProg
import Derived.Test.YtjlodddlbgpcdaaDoorBits
import Derived.Test.YtjlodddlbgpcdaaDoorHeap
import Derived.Test.YtjlodddlbgpcdaaDoorAid
import Derived.Test.YtjlodddlbgpcdaaDoorArr
import Derived.Test.YtjlodddlbgpcdaaDoorEql
import Derived.Test.YtjlodddlbgpcdaaDoorWalkBase
import Derived.Test.YtjlodddlbgpcdaaDoorWalkCode
import Derived.Test.YtjlodddlbgpcdaaDoorWalkSeat
import Derived.Test.YtjlodddlbgpcdaaDoorWalkRef
import Derived.Test.YtjlodddlbgpcdaaDoorWalkRefR
import Derived.Test.YtjlodddlbgpcdaaDoorWalkBus
import Derived.Test.YtjlodddlbgpcdaaDoorWalkBus2
import Derived.Test.YtjlodddlbgpcdaaDoorWalkRefP
import Derived.Test.YtjlodddlbgpcdaaDoorWalkRefG
import Derived.Test.YtjlodddlbgpcdaaDoorWalkRefL
import Derived.Test.YtjlodddlbgpcdaaDoorWalkDo
import Derived.Test.YtjlodddlbgpcdaaDoorWalkDo2
import Derived.Test.YtjlodddlbgpcdaaDoorWalkStep
import Derived.Test.YtjlodddlbgpcdaaDoorWalkSome
import Derived.Test.YtjlodddlbgpcdaaDoorWalkAwake
import Derived.Test.YtjlodddlbgpcdaaDoorWalkNil
import Derived.Test.YtjlodddlbgpcdaaDoorWalkPl
import Derived.Test.YtjlodddlbgpcdaaDoorWalkRs0
import Derived.Test.YtjlodddlbgpcdaaDoorWalkRs1
import Derived.Test.YtjlodddlbgpcdaaDoorWalkRs2
import Derived.Test.YtjlodddlbgpcdaaDoorWalkRs3
import Derived.Test.YtjlodddlbgpcdaaDoorWalkRs4
import Derived.Test.YtjlodddlbgpcdaaDoorWalkRsA
import Derived.Test.YtjlodddlbgpcdaaDoorWalkBoth
import Derived.Test.YtjlodddlbgpcdaaDoorWalkRaw
import Derived.Test.YtjlodddlbgpcdaaDoorWalkRuns
import Derived.Test.YtjlodddlbgpcdaaDoorWalkOne
import Derived.Test.YtjlodddlbgpcdaaDoorWalkTraps
import Derived.Test.YtjlodddlbgpcdaaDoorWalkSums
import Derived.Lib.Hide
import Derived.WalkKit
import Derived.WalkSpells
import Derived.WalkLawsBesides
import Derived.Deep.QuietTactic
import Derived.BigQuiet
import Derived.Deep.RegionHeld3
import Derived.Deep.DeepCutAuto
import Derived.Deep.CutBlock
import Derived.Lib.SlBytesConst
import Derived.StillTailTactics
import Derived.RegionTactic
import Derived.Deep.RegionLaw
import Derived.Laws.BytesString
import Derived.Laws.MakeOwn
import Derived.Deep.AppendLies
import Derived.Laws.CopyOwn
import Derived.Maps.AppendAt
import Derived.Deep.Upon
import Derived.Deep.AppendSrc
import Derived.Shelf.Abstract
import Derived.Shelf.Spec.TrailingZeros
namespace Go.Proofs.YtjlodddlbgpcdaaDoor.Walks
set_option linter.unusedVariables false
set_option linter.unusedSimpArgs false
open Go.RowKit Go.Proofs.YtjlodddlbgpcdaaDoor.Bits Go.Proofs.YtjlodddlbgpcdaaDoor.Heap Go.Proofs.YtjlodddlbgpcdaaDoor.Aid Go.Proofs.YtjlodddlbgpcdaaDoor.Arr Go.Proofs.YtjlodddlbgpcdaaDoor.Eql

/-- What a page of translations says, a word each. -/
def pgV (t : List Nat) (i : Nat) : Nat := if i = 0 then 513 else if i < t.length then t.getD i 0 % 16384 else 0
theorem pgV_lt (t : List Nat) (i : Nat) : pgV t i < 2 ^ 64 := by
  unfold pgV
  split
  · decide
  · split <;> omega
/-- The first i words of page 1. -/
def pgM (M : Me) (t : List Nat) : Nat → Me
  | 0 => M
  | i + 1 => (pgM M t i).put 1 (8 * i) (leB 8 (pgV t i))
theorem pgM_succ (M : Me) (t : List Nat) (i : Nat) : pgM M t (i + 1) = (pgM M t i).put 1 (8 * i) (leB 8 (pgV t i)) := by rw [pgM]
theorem Mm.len_of {B mb : Nat} {pv : Nat → Value} {M : Me} {w : World} (s : Mm B mb pv M w) {i : Nat} (hi : i < 32) {a : Option Addr} {n cap : Nat} (hv : pv i = .slice a n cap) : (M.p i).length = n := by
  have h := s.r i hi
  obtain ⟨a', c', he⟩ := own_form h
  rw [hv] at he
  injection he with _ h2 _
  exact h2.symm
/-- One byte more of a page of the first memory. -/
theorem S2.byte {ma mb : Nat} {pa pb : Nat → Value} {M N : Me} {w0 w : World} {i off g cap y : Nat} {l : List Nat} (s : S2 ma mb pa pb (M.put i off l) N w0 w) (hi : i < 32) (hp : (M.p i).length = 256) (hv : pa i = .slice (some ⟨g, 0, Option.none⟩) 256 cap) (hj : off + l.length < 256) (hy : y < 256) (m : Nat) :
    S2 ma mb pa pb (M.put i off (l ++ [y])) N w0 ((w.drewN m).setCell ⟨g, off + l.length, Option.none⟩ (.int .u8 (y : Int))) := by
  have hg : (pa i).ownBlock = some g := by rw [hv]; rfl
  have hk : Keep (fun q => q = g) w ((w.drewN m).setCell ⟨g, off + l.length, Option.none⟩ (.int .u8 (y : Int))) := ((Keep.refl (fun q => q = g) w).drewN m).setCell (p := ⟨g, off + l.length, Option.none⟩) (fun _ => rfl) _
  have hb := s.base (g := g) (.inl ⟨i, hi, hg⟩)
  exact ⟨(s.a.drewN m).put_step hi hp hv hj hy, s.b.keep hk (fun q hq e => s.ap g (.inr ⟨i, hi, hg⟩) (e ▸ hq)), s.ap, Keep.belowB s.bel hk s.bel.size (fun q hq e => by omega)⟩
theorem or_7 {n : Nat} (h : n < 2 ^ 32) : bits .or .u32 (n : Int) 7 = ((n ||| 7 : Nat) : Int) := bits_or (k := .u32) rfl (m := n) (n := 7) h (by decide)
theorem page7 (here write : Nat) {i : Nat} (hi : i < 3) : ((someM (here ||| 7) write [] [] 32).p i).length = 256 := by
  have ht : (here ||| 7).testBit i = true := by
    rw [Nat.testBit_or]
    have h7 : Nat.testBit 7 i = true := by rcases (show i = 0 ∨ i = 1 ∨ i = 2 by omega) with rfl | rfl | rfl <;> decide
    rw [h7, Bool.or_true]
  unfold someM
  dsimp only
  rw [if_pos ⟨by omega, ht⟩]
  have : (if i % 2 = 0 then ([] : List Nat) else []) = [] := by split <;> rfl
  rw [this]
  exact fillP_len (by decide)
/-- The seat that steps. -/
def pgS (r1 r2 : Nat) : Se := ⟨[0, r1, r2, 0, 0, 0, 0, 0, 0, 0, 0, 0, 0, 0, 0, 0, 0, 256, 64, 0, 0, 0], false, 0, 0, 0⟩
theorem pgS_ok {r1 r2 : Nat} (h1 : r1 < 2 ^ 64) (h2 : r2 < 2 ^ 64) : (pgS r1 r2).Ok :=
  ⟨rfl, by intro y hy; simp only [pgS, List.mem_cons, List.not_mem_nil, or_false] at hy; omega, by show 0 < 256; decide, by show 0 < 2 ^ 32; decide, by show 0 < 2 ^ 32; decide⟩
theorem row_at {w : World} {al : Option Addr} {n cap : Nat} {t : List Nat} (h : Row w enc64 (.slice al n cap) t) {i : Nat} (hi : i < t.length) : ∃ a, al = some a ∧ w.cell? (a.add i) = some (.int .u64 ((t.getD i 0 : Nat) : Int)) := by
  rcases h with ⟨_, h⟩ | ⟨a, c, hv, hc, hx⟩
  · rw [h] at hi; simp at hi
  · injection hv with h1 h2 h3
    refine ⟨a, h1, ?_⟩
    rw [hx i (t[i]) (List.getElem?_eq_getElem hi), List.getD_eq_getElem?_getD, List.getElem?_eq_getElem hi]
    rfl
set_option maxRecDepth 8000 in
set_option maxHeartbeats 16000000 in
theorem cpuPages_walk (v0 : Value) (a1 a2 : Int) (b3 : Bool) (a4 a5 : Int) (w : World) (f0 : Fits w (.slice (.int .u64)) [v0]) (wa1 : (Lit.int .u64 a1).wf = true) (wa2 : (Lit.int .u64 a2).wf = true) (wa4 : (Lit.int .u32 a4).wf = true) (wa5 : (Lit.int .u32 a5).wf = true) (hT : TabAt 0 Lib.deBruijn64tab w) :
    Calls Tryd.prog 6 #[v0, .int .u64 a1, .int .u64 a2, .bool b3, .int .u32 a4, .int .u32 a5] w fun e w' => e = .returned (.bool true) ∧ Below w.heap.size w w' := by
  obtain ⟨tl, rt, ht8, htm⟩ := words_row f0
  obtain ⟨ad, rfl, had⟩ := Bits.wf_u64 wa1
  obtain ⟨wd, rfl, hwd⟩ := Bits.wf_u64 wa2
  obtain ⟨here, rfl, hh⟩ := Bits.wf_u32 wa4
  obtain ⟨wrt, rfl, hw⟩ := Bits.wf_u32 wa5
  clear f0 wa1 wa2 wa4 wa5
  obtain ⟨at0, ct0, rfl⟩ := rt.form
  have RT := Lib.hid rt
  have T8 := Lib.hid ht8
  have HT := Lib.hid hT
  have HAD := Lib.hid had
  have HWD := Lib.hid hwd
  have W1 : Hid (∀ W, Calls Tryd.prog 13 #[.int .u8 12, .int .u8 1, .int .u8 2, .int .u8 0, .int .i16 0] W fun e w' => e = .returned (.int .u32 ((wordF 12 1 2 0 0 : Nat) : Int)) ∧ Below W.heap.size W w') := fun W => refWord_calls 12 1 2 0 0 (by decide) (by decide) (by decide) (by decide) W
  have W2 : Hid (∀ W, Calls Tryd.prog 13 #[.int .u8 13, .int .u8 1, .int .u8 2, .int .u8 0, .int .i16 0] W fun e w' => e = .returned (.int .u32 ((wordF 13 1 2 0 0 : Nat) : Int)) ∧ Below W.heap.size W w') := fun W => refWord_calls 13 1 2 0 0 (by decide) (by decide) (by decide) (by decide) W
  have LD1 := Lib.hid (show wordF 12 1 2 0 0 < 2 ^ 32 by decide +kernel)
  have LD2 := Lib.hid (show wordF 13 1 2 0 0 < 2 ^ 32 by decide +kernel)
  generalize wordF 12 1 2 0 0 = ld1 at *
  generalize wordF 13 1 2 0 0 = ld2 at *
  clear rt ht8 hT had hwd
  have hlt : (tl.length : Int) ≤ 9223372036854775807 := by unfold maxLen at htm; omega
  have hlt0 : 0 ≤ (tl.length : Int) := by omega
  by_cases hlen : tl.length ≤ 32
  · have hl2 : ¬ (32 : Int) < tl.length := by omega
    have hlt32 : (tl.length : Int) ≤ 32 := by omega
    go_enter Tryd.func6, Tryd.ntmps6
    go_upto_region 3 with (go_at_call 10; refine (awake_calls _ HT.out).mono ?_; rintro e w2 ⟨rfl, u⟩; have B2 := Lib.hid u; clear u)
    have hor := or_7 hh
    have SM := Lib.hid (fun W => mksome_calls (here ||| 7) wrt (.slice none 0 0) (.slice none 0 0) [] [] W (Row.nil _ _) (Row.nil _ _) (by simp) (by simp) (by decide) (by decide))
    have PL := Lib.hid (fun i (hi : i < 3) => page7 here wrt hi)
    generalize here ||| 7 = h1 at *
    go_upto_region 4 with (go_at_call 14; refine (SM.out _).mono ?_; rintro e w3 ⟨ma, mb, pa, pb, rfl, s3⟩; have S3 := Lib.hid s3; clear s3)
    clear SM hor
    generalize someM h1 wrt [] [] 32 = M0 at *
    have B3 := Lib.hid (B2.out.trans (S3.out.bel.mono B2.out.size))
    obtain ⟨ga1, ca1, _, ha1, _, ha1c, ha1m, _⟩ := S3.out.a.page (i := 1) (by decide) (PL.out 1 (by decide))
    obtain ⟨ga2, ca2, _, ha2, _, ha2c, ha2m, _⟩ := S3.out.a.page (i := 2) (by decide) (PL.out 2 (by decide))
    obtain ⟨gb1, cb1, _, hb1, _, hb1c, hb1m, _⟩ := S3.out.b.page (i := 1) (by decide) (PL.out 1 (by decide))
    obtain ⟨gb2, cb2, _, hb2, _, hb2c, hb2m, _⟩ := S3.out.b.page (i := 2) (by decide) (PL.out 2 (by decide))
    have HA1 := Lib.hid ha1
    have HA2 := Lib.hid ha2
    have HB1 := Lib.hid hb1
    have HB2 := Lib.hid hb2
    have ca1i : (256 : Int) ≤ (ca1 : Int) := by omega
    have ca2i : (256 : Int) ≤ (ca2 : Int) := by omega
    have cb1i : (256 : Int) ≤ (cb1 : Int) := by omega
    have cb2i : (256 : Int) ≤ (cb2 : Int) := by omega
    have ca1j : (ca1 : Int) ≤ 9223372036854775807 := by unfold maxLen at ha1m; omega
    have ca2j : (ca2 : Int) ≤ 9223372036854775807 := by unfold maxLen at ha2m; omega
    have cb1j : (cb1 : Int) ≤ 9223372036854775807 := by unfold maxLen at hb1m; omega
    have cb2j : (cb2 : Int) ≤ 9223372036854775807 := by unfold maxLen at hb2m; omega
    clear ha1 ha2 hb1 hb2 ha1c ha2c hb1c hb2c ha1m ha2m hb1m hb2m PL
    have LW := Lib.hid B2.out.size
    generalize w2 = wf at *
    go_upto_region 5 with (go_at_call 13; refine (W1.out _).mono ?_; rintro e w4 ⟨rfl, u⟩; have S4 := Lib.hid (S3.out.below u); have B4 := Lib.hid (B3.out.trans (u.mono B3.out.size)); clear u)
    clear S3 B3 W1
    cases b3 with
    | true =>
      go_upto_region 7 with (go_at_call 13; refine (W2.out _).mono ?_; rintro e w5 ⟨rfl, u⟩; have S5 := Lib.hid (S4.out.below u); have B5 := Lib.hid (B4.out.trans (u.mono B4.out.size)); clear u)
      clear S4 B4 W2 LD1
      generalize ld2 = ld at *
      have LD := LD2
      clear LD2
      obtain ⟨MF, hMF⟩ : ∃ M, M = (pgM M0 tl 32).put 2 0 (leB 4 ld) := ⟨_, rfl⟩
      have HMF := Lib.hid hMF
      clear hMF
      have HM0 := Lib.hid (show pgM M0 tl 0 = M0 by rw [pgM])
      have HMS := Lib.hid (fun i => pgM_succ M0 tl i)
      have HVL := Lib.hid (fun i => pgV_lt tl i)
      have hld0 : 0 ≤ (ld : Int) := by omega
      have hld1 : (ld : Int) ≤ 4294967295 := by have := LD.out; omega
      go_upto_region 8 with (fail)
      go_loopw [16, 17, 18, 19, 20, 21] (fun kv _ _ _ _ _ wr => ∃ k : Nat, kv = .int .i64 k ∧ ((k = 0 ∧ S2 ma mb pa pb M0 M0 wf wr) ∨ (k = 1 ∧ S2 ma mb pa pb MF M0 wf wr) ∨ (k = 2 ∧ S2 ma mb pa pb MF MF wf wr))) (fun kv _ _ _ _ _ _ => 2 - (intOf kv).toNat)
      case atStart => exact ⟨0, rfl, .inl ⟨rfl, S5.out⟩⟩
      case round =>
        obtain ⟨k, rfl, hst⟩ := hrel
        clear S5 B5
        rcases hst with ⟨rfl, S⟩ | ⟨rfl, S⟩ | ⟨rfl, S⟩
        · have S6 := Lib.hid S
          clear S
          go_upto_region 14 with (fail)
          as_aux_lemma =>
            go_loopw [18, 19, 20] (fun iv _ _ wq => ∃ i : Nat, i ≤ 32 ∧ iv = .int .i64 i ∧ S2 ma mb pa pb (pgM M0 tl i) M0 wf wq) (fun iv _ _ _ => 32 - (intOf iv).toNat)
            case atStart => exact ⟨0, by omega, rfl, by rw [HM0.out]; exact S6.out⟩
            case round =>
              obtain ⟨i, hi, rfl, S⟩ := hrel
              have S7 := Lib.hid S
              clear S S6
              by_cases hlt : i < 32
              · have hii0 : 0 ≤ (i : Int) := by omega
                have hii1 : (i : Int) < 32 := by omega
                by_cases hi0 : i = 0
                · have hz1 : ((i : Int) == 0) = true := by rw [hi0]; rfl
                  have HI0 := Lib.hid hi0
                  clear hi0
                  by_cases hit : i < tl.length
                  · have hit1 : (i : Int) < (tl.length : Int) := by omega
                    obtain ⟨aa, haa, hcell⟩ := row_at (RT.out.below (B2.out.trans (S7.out.bel.mono LW.out))) hit
                    generalize tl.getD i 0 = tv at *
                    have htv0 : 0 ≤ (tv : Int) := by omega
                    have hv : pgV tl i = 513 := by unfold pgV; rw [if_pos HI0.out]
                    rw [haa]
                    go_upto_region 22 with (fail)
                    as_aux_lemma =>
                      rw [show (Value.int .u64 513) = .int .u64 ((pgV tl i : Nat) : Int) by rw [hv]; first | rfl | (congr 1; omega)]
                      clear hv
                      obtain ⟨v, hv⟩ : ∃ v, pgV tl i = v := ⟨_, rfl⟩
                      have HV := Lib.hid hv
                      have VL := HVL.out i
                      rw [hv] at VL ⊢
                      clear hv
                      have hv0 : 0 ≤ (v : Int) := by omega
                      go_loopw [20] (fun jv wp => ∃ j : Nat, j ≤ 8 ∧ jv = .int .i64 j ∧ S2 ma mb pa pb ((pgM M0 tl i).put 1 (8 * i) ((leB 8 v).take j)) M0 wf wp) (fun jv _ => 8 - (intOf jv).toNat)
                      case atStart => exact ⟨0, by omega, rfl, by rw [List.take_zero, Me.put_nil]; exact S7.out⟩
                      case round =>
                        obtain ⟨j, hj, rfl, S⟩ := hrel
                        have S8 := Lib.hid S
                        have LQ := Lib.hid (S7.out.a.len_of (i := 1) (by decide) HA1.out)
                        clear S S7
                        by_cases hjl : j < 8
                        · have hj0 : 0 ≤ (j : Int) := by omega
                          have hj1 : (j : Int) < 8 := by omega
                          have q1 := S8.out.a.cell (i := 1) (by decide)
                          rw [HA1.out] at q1
                          obtain ⟨⟨y, q4⟩, q5⟩ := S8.out.a.byte (i := 1) (by decide) (S8.out.a.len_of (by decide) HA1.out) HA1.out (8 * i + j) (by omega)
                          have et : (leB 8 v).take (j + 1) = (leB 8 v).take j ++ [v / 256 ^ j % 256] := by rw [List.take_add_one, leB_get 8 v j hjl]; rfl
                          have N := Lib.hid (S8.out.byte (y := v / 256 ^ j % 256) (by decide) LQ.out HA1.out (by rw [List.length_take, leB_length]; omega) (Nat.mod_lt _ (by decide)) 1)
                          rw [← et, show 8 * i + ((leB 8 v).take j).length = 8 * i + j by rw [List.length_take, leB_length]; omega] at N
                          have e3 : 8 * (i : Int) + (j : Int) < 256 := by omega
                          have e4 : 0 ≤ 8 * (i : Int) + (j : Int) := by omega
                          have e5 : IntKind.i64.wrap (8 * (i : Int) + (j : Int)) = 8 * (i : Int) + (j : Int) := by rw [IntKind.wrap_i64]; omega
                          have e6 : IntKind.i64.wrap (8 * (i : Int)) = 8 * (i : Int) := by rw [IntKind.wrap_i64]; omega
                          have e9 : (8 * (i : Int) + (j : Int)).toNat = 8 * i + j := by omega
                          have e7 : IntKind.i64.wrap (8 * (j : Int)) = 8 * (j : Int) := by rw [IntKind.wrap_i64]; omega
                          have e8 : IntKind.u8.wrap (((v : Nat) : Int) / 2 ^ (8 * (j : Int)).toNat) = ((v / 256 ^ j % 256 : Nat) : Int) := by
                            rw [show (8 * (j : Int)).toNat = 8 * j by omega, IntKind.wrap_u8, show (2 : Int) ^ (8 * j) = ((256 ^ j : Nat) : Int) by rw [Int.pow_mul]; norm_cast]
                            simp
                          clear S8 et
                          generalize v / 256 ^ j % 256 = z at *
                          go_upto_region 24 with (fail)
                          go_still_tail 15, (by kernel_rfl)
                          change wpList _ _ _ _ _ (World.drewN _ 1)
                          go_wp2
                          go_roundw
                          case rel => first | exact ⟨j + 1, by omega, by go_num, N.out⟩ | ((repeat apply Exists.intro); exact ⟨⟨j + 1, by omega, by go_num, N.out⟩, rfl⟩)
                          case measure => first | (simp only [intOf]; omega) | (simp [intOf]; omega)
                        · have e8 : j = 8 := by omega
                          subst e8
                          rw [List.take_of_length_le (by rw [leB_length]; decide), ← HV.out, ← HMS.out] at S8
                          go_wp2
                          go_roundw
                          case rel => first | exact ⟨i + 1, by omega, by go_num, S8.out⟩ | ((repeat apply Exists.intro); exact ⟨⟨i + 1, by omega, by go_num, S8.out⟩, rfl⟩)
                          case measure => first | (simp only [intOf]; omega) | (simp [intOf]; omega)
                  · have hit1 : ¬ (i : Int) < (tl.length : Int) := by omega
                    have hv : pgV tl i = 513 := by unfold pgV; rw [if_pos HI0.out]
                    go_upto_region 22 with (fail)
                    as_aux_lemma =>
                      rw [show (Value.int .u64 513) = .int .u64 ((pgV tl i : Nat) : Int) by rw [hv]; first | rfl | (congr 1; omega)]
                      clear hv
                      obtain ⟨v, hv⟩ : ∃ v, pgV tl i = v := ⟨_, rfl⟩
                      have HV := Lib.hid hv
                      have VL := HVL.out i
                      rw [hv] at VL ⊢
                      clear hv
                      have hv0 : 0 ≤ (v : Int) := by omega
                      go_loopw [20] (fun jv wp => ∃ j : Nat, j ≤ 8 ∧ jv = .int .i64 j ∧ S2 ma mb pa pb ((pgM M0 tl i).put 1 (8 * i) ((leB 8 v).take j)) M0 wf wp) (fun jv _ => 8 - (intOf jv).toNat)
                      case atStart => exact ⟨0, by omega, rfl, by rw [List.take_zero, Me.put_nil]; exact S7.out⟩
                      case round =>
                        obtain ⟨j, hj, rfl, S⟩ := hrel
                        have S8 := Lib.hid S
                        have LQ := Lib.hid (S7.out.a.len_of (i := 1) (by decide) HA1.out)
                        clear S S7
                        by_cases hjl : j < 8
                        · have hj0 : 0 ≤ (j : Int) := by omega
                          have hj1 : (j : Int) < 8 := by omega
                          have q1 := S8.out.a.cell (i := 1) (by decide)
                          rw [HA1.out] at q1
                          obtain ⟨⟨y, q4⟩, q5⟩ := S8.out.a.byte (i := 1) (by decide) (S8.out.a.len_of (by decide) HA1.out) HA1.out (8 * i + j) (by omega)
                          have et : (leB 8 v).take (j + 1) = (leB 8 v).take j ++ [v / 256 ^ j % 256] := by rw [List.take_add_one, leB_get 8 v j hjl]; rfl
                          have N := Lib.hid (S8.out.byte (y := v / 256 ^ j % 256) (by decide) LQ.out HA1.out (by rw [List.length_take, leB_length]; omega) (Nat.mod_lt _ (by decide)) 1)
                          rw [← et, show 8 * i + ((leB 8 v).take j).length = 8 * i + j by rw [List.length_take, leB_length]; omega] at N
                          have e3 : 8 * (i : Int) + (j : Int) < 256 := by omega
                          have e4 : 0 ≤ 8 * (i : Int) + (j : Int) := by omega
                          have e5 : IntKind.i64.wrap (8 * (i : Int) + (j : Int)) = 8 * (i : Int) + (j : Int) := by rw [IntKind.wrap_i64]; omega
                          have e6 : IntKind.i64.wrap (8 * (i : Int)) = 8 * (i : Int) := by rw [IntKind.wrap_i64]; omega
                          have e9 : (8 * (i : Int) + (j : Int)).toNat = 8 * i + j := by omega
                          have e7 : IntKind.i64.wrap (8 * (j : Int)) = 8 * (j : Int) := by rw [IntKind.wrap_i64]; omega
                          have e8 : IntKind.u8.wrap (((v : Nat) : Int) / 2 ^ (8 * (j : Int)).toNat) = ((v / 256 ^ j % 256 : Nat) : Int) := by
                            rw [show (8 * (j : Int)).toNat = 8 * j by omega, IntKind.wrap_u8, show (2 : Int) ^ (8 * j) = ((256 ^ j : Nat) : Int) by rw [Int.pow_mul]; norm_cast]
                            simp
                          clear S8 et
                          generalize v / 256 ^ j % 256 = z at *
                          go_upto_region 24 with (fail)
                          go_still_tail 15, (by kernel_rfl)
                          change wpList _ _ _ _ _ (World.drewN _ 1)
                          go_wp2
                          go_roundw
                          case rel => first | exact ⟨j + 1, by omega, by go_num, N.out⟩ | ((repeat apply Exists.intro); exact ⟨⟨j + 1, by omega, by go_num, N.out⟩, rfl⟩)
                          case measure => first | (simp only [intOf]; omega) | (simp [intOf]; omega)
                        · have e8 : j = 8 := by omega
                          subst e8
                          rw [List.take_of_length_le (by rw [leB_length]; decide), ← HV.out, ← HMS.out] at S8
                          go_wp2
                          go_roundw
                          case rel => first | exact ⟨i + 1, by omega, by go_num, S8.out⟩ | ((repeat apply Exists.intro); exact ⟨⟨i + 1, by omega, by go_num, S8.out⟩, rfl⟩)
                          case measure => first | (simp only [intOf]; omega) | (simp [intOf]; omega)
                · have hz1 : ((i : Int) == 0) = false := by simp; omega
                  by_cases hit : i < tl.length
                  · have hit1 : (i : Int) < (tl.length : Int) := by omega
                    obtain ⟨aa, haa, hcell⟩ := row_at (RT.out.below (B2.out.trans (S7.out.bel.mono LW.out))) hit
                    have hv : pgV tl i = tl.getD i 0 % 16384 := by unfold pgV; rw [if_neg hi0, if_pos hit]
                    generalize tl.getD i 0 = tv at *
                    have htv0 : 0 ≤ (tv : Int) := by omega
                    rw [haa]
                    go_upto_region 22 with (fail)
                    as_aux_lemma =>
                      rw [show (Value.int .u64 ((tv : Int) % 16384)) = .int .u64 ((pgV tl i : Nat) : Int) by rw [hv]; first | rfl | (congr 1; omega)]
                      clear hv
                      obtain ⟨v, hv⟩ : ∃ v, pgV tl i = v := ⟨_, rfl⟩
                      have HV := Lib.hid hv
                      have VL := HVL.out i
                      rw [hv] at VL ⊢
                      clear hv
                      have hv0 : 0 ≤ (v : Int) := by omega
                      go_loopw [20] (fun jv wp => ∃ j : Nat, j ≤ 8 ∧ jv = .int .i64 j ∧ S2 ma mb pa pb ((pgM M0 tl i).put 1 (8 * i) ((leB 8 v).take j)) M0 wf wp) (fun jv _ => 8 - (intOf jv).toNat)
                      case atStart => exact ⟨0, by omega, rfl, by rw [List.take_zero, Me.put_nil]; exact S7.out⟩
                      case round =>
                        obtain ⟨j, hj, rfl, S⟩ := hrel
                        have S8 := Lib.hid S
                        have LQ := Lib.hid (S7.out.a.len_of (i := 1) (by decide) HA1.out)
                        clear S S7
                        by_cases hjl : j < 8
                        · have hj0 : 0 ≤ (j : Int) := by omega
                          have hj1 : (j : Int) < 8 := by omega
                          have q1 := S8.out.a.cell (i := 1) (by decide)
                          rw [HA1.out] at q1
                          obtain ⟨⟨y, q4⟩, q5⟩ := S8.out.a.byte (i := 1) (by decide) (S8.out.a.len_of (by decide) HA1.out) HA1.out (8 * i + j) (by omega)
                          have et : (leB 8 v).take (j + 1) = (leB 8 v).take j ++ [v / 256 ^ j % 256] := by rw [List.take_add_one, leB_get 8 v j hjl]; rfl
                          have N := Lib.hid (S8.out.byte (y := v / 256 ^ j % 256) (by decide) LQ.out HA1.out (by rw [List.length_take, leB_length]; omega) (Nat.mod_lt _ (by decide)) 1)
                          rw [← et, show 8 * i + ((leB 8 v).take j).length = 8 * i + j by rw [List.length_take, leB_length]; omega] at N
                          have e3 : 8 * (i : Int) + (j : Int) < 256 := by omega
                          have e4 : 0 ≤ 8 * (i : Int) + (j : Int) := by omega
                          have e5 : IntKind.i64.wrap (8 * (i : Int) + (j : Int)) = 8 * (i : Int) + (j : Int) := by rw [IntKind.wrap_i64]; omega
                          have e6 : IntKind.i64.wrap (8 * (i : Int)) = 8 * (i : Int) := by rw [IntKind.wrap_i64]; omega
                          have e9 : (8 * (i : Int) + (j : Int)).toNat = 8 * i + j := by omega
                          have e7 : IntKind.i64.wrap (8 * (j : Int)) = 8 * (j : Int) := by rw [IntKind.wrap_i64]; omega
                          have e8 : IntKind.u8.wrap (((v : Nat) : Int) / 2 ^ (8 * (j : Int)).toNat) = ((v / 256 ^ j % 256 : Nat) : Int) := by
                            rw [show (8 * (j : Int)).toNat = 8 * j by omega, IntKind.wrap_u8, show (2 : Int) ^ (8 * j) = ((256 ^ j : Nat) : Int) by rw [Int.pow_mul]; norm_cast]
                            simp
                          clear S8 et
                          generalize v / 256 ^ j % 256 = z at *
                          go_upto_region 24 with (fail)
                          go_still_tail 15, (by kernel_rfl)
                          change wpList _ _ _ _ _ (World.drewN _ 1)
                          go_wp2
                          go_roundw
                          case rel => first | exact ⟨j + 1, by omega, by go_num, N.out⟩ | ((repeat apply Exists.intro); exact ⟨⟨j + 1, by omega, by go_num, N.out⟩, rfl⟩)
                          case measure => first | (simp only [intOf]; omega) | (simp [intOf]; omega)
                        · have e8 : j = 8 := by omega
                          subst e8
                          rw [List.take_of_length_le (by rw [leB_length]; decide), ← HV.out, ← HMS.out] at S8
                          go_wp2
                          go_roundw
                          case rel => first | exact ⟨i + 1, by omega, by go_num, S8.out⟩ | ((repeat apply Exists.intro); exact ⟨⟨i + 1, by omega, by go_num, S8.out⟩, rfl⟩)
                          case measure => first | (simp only [intOf]; omega) | (simp [intOf]; omega)
                  · have hit1 : ¬ (i : Int) < (tl.length : Int) := by omega
                    have hv : pgV tl i = 0 := by unfold pgV; rw [if_neg hi0, if_neg hit]
                    go_upto_region 22 with (fail)
                    as_aux_lemma =>
                      rw [show (Value.int .u64 0) = .int .u64 ((pgV tl i : Nat) : Int) by rw [hv]; first | rfl | (congr 1; omega)]
                      clear hv
                      obtain ⟨v, hv⟩ : ∃ v, pgV tl i = v := ⟨_, rfl⟩
                      have HV := Lib.hid hv
                      have VL := HVL.out i
                      rw [hv] at VL ⊢
                      clear hv
                      have hv0 : 0 ≤ (v : Int) := by omega
                      go_loopw [20] (fun jv wp => ∃ j : Nat, j ≤ 8 ∧ jv = .int .i64 j ∧ S2 ma mb pa pb ((pgM M0 tl i).put 1 (8 * i) ((leB 8 v).take j)) M0 wf wp) (fun jv _ => 8 - (intOf jv).toNat)
                      case atStart => exact ⟨0, by omega, rfl, by rw [List.take_zero, Me.put_nil]; exact S7.out⟩
                      case round =>
                        obtain ⟨j, hj, rfl, S⟩ := hrel
                        have S8 := Lib.hid S
                        have LQ := Lib.hid (S7.out.a.len_of (i := 1) (by decide) HA1.out)
                        clear S S7
                        by_cases hjl : j < 8
                        · have hj0 : 0 ≤ (j : Int) := by omega
                          have hj1 : (j : Int) < 8 := by omega
                          have q1 := S8.out.a.cell (i := 1) (by decide)
                          rw [HA1.out] at q1
                          obtain ⟨⟨y, q4⟩, q5⟩ := S8.out.a.byte (i := 1) (by decide) (S8.out.a.len_of (by decide) HA1.out) HA1.out (8 * i + j) (by omega)
                          have et : (leB 8 v).take (j + 1) = (leB 8 v).take j ++ [v / 256 ^ j % 256] := by rw [List.take_add_one, leB_get 8 v j hjl]; rfl
                          have N := Lib.hid (S8.out.byte (y := v / 256 ^ j % 256) (by decide) LQ.out HA1.out (by rw [List.length_take, leB_length]; omega) (Nat.mod_lt _ (by decide)) 1)
                          rw [← et, show 8 * i + ((leB 8 v).take j).length = 8 * i + j by rw [List.length_take, leB_length]; omega] at N
                          have e3 : 8 * (i : Int) + (j : Int) < 256 := by omega
                          have e4 : 0 ≤ 8 * (i : Int) + (j : Int) := by omega
                          have e5 : IntKind.i64.wrap (8 * (i : Int) + (j : Int)) = 8 * (i : Int) + (j : Int) := by rw [IntKind.wrap_i64]; omega
                          have e6 : IntKind.i64.wrap (8 * (i : Int)) = 8 * (i : Int) := by rw [IntKind.wrap_i64]; omega
                          have e9 : (8 * (i : Int) + (j : Int)).toNat = 8 * i + j := by omega
                          have e7 : IntKind.i64.wrap (8 * (j : Int)) = 8 * (j : Int) := by rw [IntKind.wrap_i64]; omega
                          have e8 : IntKind.u8.wrap (((v : Nat) : Int) / 2 ^ (8 * (j : Int)).toNat) = ((v / 256 ^ j % 256 : Nat) : Int) := by
                            rw [show (8 * (j : Int)).toNat = 8 * j by omega, IntKind.wrap_u8, show (2 : Int) ^ (8 * j) = ((256 ^ j : Nat) : Int) by rw [Int.pow_mul]; norm_cast]
                            simp
                          clear S8 et
                          generalize v / 256 ^ j % 256 = z at *
                          go_upto_region 24 with (fail)
                          go_still_tail 15, (by kernel_rfl)
                          change wpList _ _ _ _ _ (World.drewN _ 1)
                          go_wp2
                          go_roundw
                          case rel => first | exact ⟨j + 1, by omega, by go_num, N.out⟩ | ((repeat apply Exists.intro); exact ⟨⟨j + 1, by omega, by go_num, N.out⟩, rfl⟩)
                          case measure => first | (simp only [intOf]; omega) | (simp [intOf]; omega)
                        · have e8 : j = 8 := by omega
                          subst e8
                          rw [List.take_of_length_le (by rw [leB_length]; decide), ← HV.out, ← HMS.out] at S8
                          go_wp2
                          go_roundw
                          case rel => first | exact ⟨i + 1, by omega, by go_num, S8.out⟩ | ((repeat apply Exists.intro); exact ⟨⟨i + 1, by omega, by go_num, S8.out⟩, rfl⟩)
                          case measure => first | (simp only [intOf]; omega) | (simp [intOf]; omega)
              · have e : i = 32 := by omega
                rw [e] at S7
                have hii1 : ¬ (i : Int) < 32 := by omega
                generalize pgM M0 tl 32 = M3 at *
                go_upto_region 26 with (fail)
                go_loopw [21] (fun jv wp => ∃ j : Nat, j ≤ 4 ∧ jv = .int .i64 j ∧ S2 ma mb pa pb (M3.put 2 0 ((leB 4 ld).take j)) M0 wf wp) (fun jv _ => 4 - (intOf jv).toNat)
                case atStart => exact ⟨0, by omega, rfl, by rw [List.take_zero, Me.put_nil]; exact S7.out⟩
                case round =>
                  obtain ⟨j, hj, rfl, S⟩ := hrel
                  have S8 := Lib.hid S
                  have LQ := Lib.hid (S7.out.a.len_of (i := 2) (by decide) HA2.out)
                  clear S S7
                  by_cases hjl : j < 4
                  · have hj0 : 0 ≤ (j : Int) := by omega
                    have hj1 : (j : Int) < 4 := by omega
                    have hj2 : (j : Int) < 256 := by omega
                    have q1 := S8.out.a.cell (i := 2) (by decide)
                    rw [HA2.out] at q1
                    obtain ⟨⟨y, q4⟩, q5⟩ := S8.out.a.byte (i := 2) (by decide) (S8.out.a.len_of (by decide) HA2.out) HA2.out j (by omega)
                    have et : (leB 4 ld).take (j + 1) = (leB 4 ld).take j ++ [ld / 256 ^ j % 256] := by rw [List.take_add_one, leB_get 4 ld j hjl]; rfl
                    have N := Lib.hid (S8.out.byte (y := ld / 256 ^ j % 256) (by decide) LQ.out HA2.out (by rw [List.length_take, leB_length]; omega) (Nat.mod_lt _ (by decide)) 1)
                    rw [← et, show 0 + ((leB 4 ld).take j).length = j by rw [List.length_take, leB_length]; omega] at N
                    have e7 : IntKind.i64.wrap (8 * (j : Int)) = 8 * (j : Int) := by rw [IntKind.wrap_i64]; omega
                    have e8 : IntKind.u8.wrap ((ld : Int) / 2 ^ (8 * (j : Int)).toNat) = ((ld / 256 ^ j % 256 : Nat) : Int) := by
                      rw [show (8 * (j : Int)).toNat = 8 * j by omega, IntKind.wrap_u8, show (2 : Int) ^ (8 * j) = ((256 ^ j : Nat) : Int) by rw [Int.pow_mul]; norm_cast]
                      simp
                    clear S8 et
                    generalize ld / 256 ^ j % 256 = z at *
                    go_upto_region 28 with (fail)
                    go_still_tail 12, (by kernel_rfl)
                    change wpList _ _ _ _ _ (World.drewN _ 1)
                    go_wp2
                    all_goals first
                      | (go_roundw; (case rel => first | exact ⟨j + 1, by omega, by go_num, N.out⟩ | ((repeat apply Exists.intro); exact ⟨⟨j + 1, by omega, by go_num, N.out⟩, rfl⟩)); (case measure => first | (simp only [intOf]; omega) | (simp [intOf]; omega)))
                      | (rename_i hq; rw [q5] at hq; cases hq)
                  · have e4 : j = 4 := by omega
                    subst e4
                    rw [List.take_of_length_le (by rw [leB_length]; decide), ← HMF.out] at S8
                    go_wp2
                    go_roundw
                    case rel => first | exact ⟨1, by rfl, .inr (.inl ⟨rfl, S8.out⟩)⟩ | ((repeat apply Exists.intro); exact ⟨⟨1, by rfl, .inr (.inl ⟨rfl, S8.out⟩)⟩, rfl⟩)
                    case measure => simp [intOf]
        · have S6 := Lib.hid S.swap
          clear S
          go_upto_region 14 with (fail)
          as_aux_lemma =>
            go_loopw [18, 19, 20] (fun iv _ _ wq => ∃ i : Nat, i ≤ 32 ∧ iv = .int .i64 i ∧ S2 mb ma pb pa (pgM M0 tl i) MF wf wq) (fun iv _ _ _ => 32 - (intOf iv).toNat)
            case atStart => exact ⟨0, by omega, rfl, by rw [HM0.out]; exact S6.out⟩
            case round =>
              obtain ⟨i, hi, rfl, S⟩ := hrel
              have S7 := Lib.hid S
              clear S S6
              by_cases hlt : i < 32
              · have hii0 : 0 ≤ (i : Int) := by omega
                have hii1 : (i : Int) < 32 := by omega
                by_cases hi0 : i = 0
                · have hz1 : ((i : Int) == 0) = true := by rw [hi0]; rfl
                  have HI0 := Lib.hid hi0
                  clear hi0
                  by_cases hit : i < tl.length
                  · have hit1 : (i : Int) < (tl.length : Int) := by omega
                    obtain ⟨aa, haa, hcell⟩ := row_at (RT.out.below (B2.out.trans (S7.out.bel.mono LW.out))) hit
                    generalize tl.getD i 0 = tv at *
                    have htv0 : 0 ≤ (tv : Int) := by omega
                    have hv : pgV tl i = 513 := by unfold pgV; rw [if_pos HI0.out]
                    rw [haa]
                    go_upto_region 22 with (fail)
                    as_aux_lemma =>
                      rw [show (Value.int .u64 513) = .int .u64 ((pgV tl i : Nat) : Int) by rw [hv]; first | rfl | (congr 1; omega)]
                      clear hv
                      obtain ⟨v, hv⟩ : ∃ v, pgV tl i = v := ⟨_, rfl⟩
                      have HV := Lib.hid hv
                      have VL := HVL.out i
                      rw [hv] at VL ⊢
                      clear hv
                      have hv0 : 0 ≤ (v : Int) := by omega
                      go_loopw [20] (fun jv wp => ∃ j : Nat, j ≤ 8 ∧ jv = .int .i64 j ∧ S2 mb ma pb pa ((pgM M0 tl i).put 1 (8 * i) ((leB 8 v).take j)) MF wf wp) (fun jv _ => 8 - (intOf jv).toNat)
                      case atStart => exact ⟨0, by omega, rfl, by rw [List.take_zero, Me.put_nil]; exact S7.out⟩
                      case round =>
                        obtain ⟨j, hj, rfl, S⟩ := hrel
                        have S8 := Lib.hid S
                        have LQ := Lib.hid (S7.out.a.len_of (i := 1) (by decide) HB1.out)
                        clear S S7
                        by_cases hjl : j < 8
                        · have hj0 : 0 ≤ (j : Int) := by omega
                          have hj1 : (j : Int) < 8 := by omega
                          have q1 := S8.out.a.cell (i := 1) (by decide)
                          rw [HB1.out] at q1
                          obtain ⟨⟨y, q4⟩, q5⟩ := S8.out.a.byte (i := 1) (by decide) (S8.out.a.len_of (by decide) HB1.out) HB1.out (8 * i + j) (by omega)
                          have et : (leB 8 v).take (j + 1) = (leB 8 v).take j ++ [v / 256 ^ j % 256] := by rw [List.take_add_one, leB_get 8 v j hjl]; rfl
                          have N := Lib.hid (S8.out.byte (y := v / 256 ^ j % 256) (by decide) LQ.out HB1.out (by rw [List.length_take, leB_length]; omega) (Nat.mod_lt _ (by decide)) 1)
                          rw [← et, show 8 * i + ((leB 8 v).take j).length = 8 * i + j by rw [List.length_take, leB_length]; omega] at N
                          have e3 : 8 * (i : Int) + (j : Int) < 256 := by omega
                          have e4 : 0 ≤ 8 * (i : Int) + (j : Int) := by omega
                          have e5 : IntKind.i64.wrap (8 * (i : Int) + (j : Int)) = 8 * (i : Int) + (j : Int) := by rw [IntKind.wrap_i64]; omega
                          have e6 : IntKind.i64.wrap (8 * (i : Int)) = 8 * (i : Int) := by rw [IntKind.wrap_i64]; omega
                          have e9 : (8 * (i : Int) + (j : Int)).toNat = 8 * i + j := by omega
                          have e7 : IntKind.i64.wrap (8 * (j : Int)) = 8 * (j : Int) := by rw [IntKind.wrap_i64]; omega
                          have e8 : IntKind.u8.wrap (((v : Nat) : Int) / 2 ^ (8 * (j : Int)).toNat) = ((v / 256 ^ j % 256 : Nat) : Int) := by
                            rw [show (8 * (j : Int)).toNat = 8 * j by omega, IntKind.wrap_u8, show (2 : Int) ^ (8 * j) = ((256 ^ j : Nat) : Int) by rw [Int.pow_mul]; norm_cast]
                            simp
                          clear S8 et
                          generalize v / 256 ^ j % 256 = z at *
                          go_upto_region 24 with (fail)
                          go_still_tail 15, (by kernel_rfl)
                          change wpList _ _ _ _ _ (World.drewN _ 1)
                          go_wp2
                          go_roundw
                          case rel => first | exact ⟨j + 1, by omega, by go_num, N.out⟩ | ((repeat apply Exists.intro); exact ⟨⟨j + 1, by omega, by go_num, N.out⟩, rfl⟩)
                          case measure => first | (simp only [intOf]; omega) | (simp [intOf]; omega)
                        · have e8 : j = 8 := by omega
                          subst e8
                          rw [List.take_of_length_le (by rw [leB_length]; decide), ← HV.out, ← HMS.out] at S8
                          go_wp2
                          go_roundw
                          case rel => first | exact ⟨i + 1, by omega, by go_num, S8.out⟩ | ((repeat apply Exists.intro); exact ⟨⟨i + 1, by omega, by go_num, S8.out⟩, rfl⟩)
                          case measure => first | (simp only [intOf]; omega) | (simp [intOf]; omega)
                  · have hit1 : ¬ (i : Int) < (tl.length : Int) := by omega
                    have hv : pgV tl i = 513 := by unfold pgV; rw [if_pos HI0.out]
                    go_upto_region 22 with (fail)
                    as_aux_lemma =>
                      rw [show (Value.int .u64 513) = .int .u64 ((pgV tl i : Nat) : Int) by rw [hv]; first | rfl | (congr 1; omega)]
                      clear hv
                      obtain ⟨v, hv⟩ : ∃ v, pgV tl i = v := ⟨_, rfl⟩
                      have HV := Lib.hid hv
                      have VL := HVL.out i
                      rw [hv] at VL ⊢
                      clear hv
                      have hv0 : 0 ≤ (v : Int) := by omega
                      go_loopw [20] (fun jv wp => ∃ j : Nat, j ≤ 8 ∧ jv = .int .i64 j ∧ S2 mb ma pb pa ((pgM M0 tl i).put 1 (8 * i) ((leB 8 v).take j)) MF wf wp) (fun jv _ => 8 - (intOf jv).toNat)
                      case atStart => exact ⟨0, by omega, rfl, by rw [List.take_zero, Me.put_nil]; exact S7.out⟩
                      case round =>
                        obtain ⟨j, hj, rfl, S⟩ := hrel
                        have S8 := Lib.hid S
                        have LQ := Lib.hid (S7.out.a.len_of (i := 1) (by decide) HB1.out)
                        clear S S7
                        by_cases hjl : j < 8
                        · have hj0 : 0 ≤ (j : Int) := by omega
                          have hj1 : (j : Int) < 8 := by omega
                          have q1 := S8.out.a.cell (i := 1) (by decide)
                          rw [HB1.out] at q1
                          obtain ⟨⟨y, q4⟩, q5⟩ := S8.out.a.byte (i := 1) (by decide) (S8.out.a.len_of (by decide) HB1.out) HB1.out (8 * i + j) (by omega)
                          have et : (leB 8 v).take (j + 1) = (leB 8 v).take j ++ [v / 256 ^ j % 256] := by rw [List.take_add_one, leB_get 8 v j hjl]; rfl
                          have N := Lib.hid (S8.out.byte (y := v / 256 ^ j % 256) (by decide) LQ.out HB1.out (by rw [List.length_take, leB_length]; omega) (Nat.mod_lt _ (by decide)) 1)
                          rw [← et, show 8 * i + ((leB 8 v).take j).length = 8 * i + j by rw [List.length_take, leB_length]; omega] at N
                          have e3 : 8 * (i : Int) + (j : Int) < 256 := by omega
                          have e4 : 0 ≤ 8 * (i : Int) + (j : Int) := by omega
                          have e5 : IntKind.i64.wrap (8 * (i : Int) + (j : Int)) = 8 * (i : Int) + (j : Int) := by rw [IntKind.wrap_i64]; omega
                          have e6 : IntKind.i64.wrap (8 * (i : Int)) = 8 * (i : Int) := by rw [IntKind.wrap_i64]; omega
                          have e9 : (8 * (i : Int) + (j : Int)).toNat = 8 * i + j := by omega
                          have e7 : IntKind.i64.wrap (8 * (j : Int)) = 8 * (j : Int) := by rw [IntKind.wrap_i64]; omega
                          have e8 : IntKind.u8.wrap (((v : Nat) : Int) / 2 ^ (8 * (j : Int)).toNat) = ((v / 256 ^ j % 256 : Nat) : Int) := by
                            rw [show (8 * (j : Int)).toNat = 8 * j by omega, IntKind.wrap_u8, show (2 : Int) ^ (8 * j) = ((256 ^ j : Nat) : Int) by rw [Int.pow_mul]; norm_cast]
                            simp
                          clear S8 et
                          generalize v / 256 ^ j % 256 = z at *
                          go_upto_region 24 with (fail)
                          go_still_tail 15, (by kernel_rfl)
                          change wpList _ _ _ _ _ (World.drewN _ 1)
                          go_wp2
                          go_roundw
                          case rel => first | exact ⟨j + 1, by omega, by go_num, N.out⟩ | ((repeat apply Exists.intro); exact ⟨⟨j + 1, by omega, by go_num, N.out⟩, rfl⟩)
                          case measure => first | (simp only [intOf]; omega) | (simp [intOf]; omega)
                        · have e8 : j = 8 := by omega
                          subst e8
                          rw [List.take_of_length_le (by rw [leB_length]; decide), ← HV.out, ← HMS.out] at S8
                          go_wp2
                          go_roundw
                          case rel => first | exact ⟨i + 1, by omega, by go_num, S8.out⟩ | ((repeat apply Exists.intro); exact ⟨⟨i + 1, by omega, by go_num, S8.out⟩, rfl⟩)
                          case measure => first | (simp only [intOf]; omega) | (simp [intOf]; omega)
                · have hz1 : ((i : Int) == 0) = false := by simp; omega
                  by_cases hit : i < tl.length
                  · have hit1 : (i : Int) < (tl.length : Int) := by omega
                    obtain ⟨aa, haa, hcell⟩ := row_at (RT.out.below (B2.out.trans (S7.out.bel.mono LW.out))) hit
                    have hv : pgV tl i = tl.getD i 0 % 16384 := by unfold pgV; rw [if_neg hi0, if_pos hit]
                    generalize tl.getD i 0 = tv at *
                    have htv0 : 0 ≤ (tv : Int) := by omega
                    rw [haa]
                    go_upto_region 22 with (fail)
                    as_aux_lemma =>
                      rw [show (Value.int .u64 ((tv : Int) % 16384)) = .int .u64 ((pgV tl i : Nat) : Int) by rw [hv]; first | rfl | (congr 1; omega)]
                      clear hv
                      obtain ⟨v, hv⟩ : ∃ v, pgV tl i = v := ⟨_, rfl⟩
                      have HV := Lib.hid hv
                      have VL := HVL.out i
                      rw [hv] at VL ⊢
                      clear hv
                      have hv0 : 0 ≤ (v : Int) := by omega
                      go_loopw [20] (fun jv wp => ∃ j : Nat, j ≤ 8 ∧ jv = .int .i64 j ∧ S2 mb ma pb pa ((pgM M0 tl i).put 1 (8 * i) ((leB 8 v).take j)) MF wf wp) (fun jv _ => 8 - (intOf jv).toNat)
                      case atStart => exact ⟨0, by omega, rfl, by rw [List.take_zero, Me.put_nil]; exact S7.out⟩
                      case round =>
                        obtain ⟨j, hj, rfl, S⟩ := hrel
                        have S8 := Lib.hid S
                        have LQ := Lib.hid (S7.out.a.len_of (i := 1) (by decide) HB1.out)
                        clear S S7
                        by_cases hjl : j < 8
                        · have hj0 : 0 ≤ (j : Int) := by omega
                          have hj1 : (j : Int) < 8 := by omega
                          have q1 := S8.out.a.cell (i := 1) (by decide)
                          rw [HB1.out] at q1
                          obtain ⟨⟨y, q4⟩, q5⟩ := S8.out.a.byte (i := 1) (by decide) (S8.out.a.len_of (by decide) HB1.out) HB1.out (8 * i + j) (by omega)
                          have et : (leB 8 v).take (j + 1) = (leB 8 v).take j ++ [v / 256 ^ j % 256] := by rw [List.take_add_one, leB_get 8 v j hjl]; rfl
                          have N := Lib.hid (S8.out.byte (y := v / 256 ^ j % 256) (by decide) LQ.out HB1.out (by rw [List.length_take, leB_length]; omega) (Nat.mod_lt _ (by decide)) 1)
                          rw [← et, show 8 * i + ((leB 8 v).take j).length = 8 * i + j by rw [List.length_take, leB_length]; omega] at N
                          have e3 : 8 * (i : Int) + (j : Int) < 256 := by omega
                          have e4 : 0 ≤ 8 * (i : Int) + (j : Int) := by omega
                          have e5 : IntKind.i64.wrap (8 * (i : Int) + (j : Int)) = 8 * (i : Int) + (j : Int) := by rw [IntKind.wrap_i64]; omega
                          have e6 : IntKind.i64.wrap (8 * (i : Int)) = 8 * (i : Int) := by rw [IntKind.wrap_i64]; omega
                          have e9 : (8 * (i : Int) + (j : Int)).toNat = 8 * i + j := by omega
                          have e7 : IntKind.i64.wrap (8 * (j : Int)) = 8 * (j : Int) := by rw [IntKind.wrap_i64]; omega
                          have e8 : IntKind.u8.wrap (((v : Nat) : Int) / 2 ^ (8 * (j : Int)).toNat) = ((v / 256 ^ j % 256 : Nat) : Int) := by
                            rw [show (8 * (j : Int)).toNat = 8 * j by omega, IntKind.wrap_u8, show (2 : Int) ^ (8 * j) = ((256 ^ j : Nat) : Int) by rw [Int.pow_mul]; norm_cast]
                            simp
                          clear S8 et
                          generalize v / 256 ^ j % 256 = z at *
                          go_upto_region 24 with (fail)
                          go_still_tail 15, (by kernel_rfl)
                          change wpList _ _ _ _ _ (World.drewN _ 1)
                          go_wp2
                          go_roundw
                          case rel => first | exact ⟨j + 1, by omega, by go_num, N.out⟩ | ((repeat apply Exists.intro); exact ⟨⟨j + 1, by omega, by go_num, N.out⟩, rfl⟩)
                          case measure => first | (simp only [intOf]; omega) | (simp [intOf]; omega)
                        · have e8 : j = 8 := by omega
                          subst e8
                          rw [List.take_of_length_le (by rw [leB_length]; decide), ← HV.out, ← HMS.out] at S8
                          go_wp2
                          go_roundw
                          case rel => first | exact ⟨i + 1, by omega, by go_num, S8.out⟩ | ((repeat apply Exists.intro); exact ⟨⟨i + 1, by omega, by go_num, S8.out⟩, rfl⟩)
                          case measure => first | (simp only [intOf]; omega) | (simp [intOf]; omega)
                  · have hit1 : ¬ (i : Int) < (tl.length : Int) := by omega
                    have hv : pgV tl i = 0 := by unfold pgV; rw [if_neg hi0, if_neg hit]
                    go_upto_region 22 with (fail)
                    as_aux_lemma =>
                      rw [show (Value.int .u64 0) = .int .u64 ((pgV tl i : Nat) : Int) by rw [hv]; first | rfl | (congr 1; omega)]
                      clear hv
                      obtain ⟨v, hv⟩ : ∃ v, pgV tl i = v := ⟨_, rfl⟩
                      have HV := Lib.hid hv
                      have VL := HVL.out i
                      rw [hv] at VL ⊢
                      clear hv
                      have hv0 : 0 ≤ (v : Int) := by omega
                      go_loopw [20] (fun jv wp => ∃ j : Nat, j ≤ 8 ∧ jv = .int .i64 j ∧ S2 mb ma pb pa ((pgM M0 tl i).put 1 (8 * i) ((leB 8 v).take j)) MF wf wp) (fun jv _ => 8 - (intOf jv).toNat)
                      case atStart => exact ⟨0, by omega, rfl, by rw [List.take_zero, Me.put_nil]; exact S7.out⟩
                      case round =>
                        obtain ⟨j, hj, rfl, S⟩ := hrel
                        have S8 := Lib.hid S
                        have LQ := Lib.hid (S7.out.a.len_of (i := 1) (by decide) HB1.out)
                        clear S S7
                        by_cases hjl : j < 8
                        · have hj0 : 0 ≤ (j : Int) := by omega
                          have hj1 : (j : Int) < 8 := by omega
                          have q1 := S8.out.a.cell (i := 1) (by decide)
                          rw [HB1.out] at q1
                          obtain ⟨⟨y, q4⟩, q5⟩ := S8.out.a.byte (i := 1) (by decide) (S8.out.a.len_of (by decide) HB1.out) HB1.out (8 * i + j) (by omega)
                          have et : (leB 8 v).take (j + 1) = (leB 8 v).take j ++ [v / 256 ^ j % 256] := by rw [List.take_add_one, leB_get 8 v j hjl]; rfl
                          have N := Lib.hid (S8.out.byte (y := v / 256 ^ j % 256) (by decide) LQ.out HB1.out (by rw [List.length_take, leB_length]; omega) (Nat.mod_lt _ (by decide)) 1)
                          rw [← et, show 8 * i + ((leB 8 v).take j).length = 8 * i + j by rw [List.length_take, leB_length]; omega] at N
                          have e3 : 8 * (i : Int) + (j : Int) < 256 := by omega
                          have e4 : 0 ≤ 8 * (i : Int) + (j : Int) := by omega
                          have e5 : IntKind.i64.wrap (8 * (i : Int) + (j : Int)) = 8 * (i : Int) + (j : Int) := by rw [IntKind.wrap_i64]; omega
                          have e6 : IntKind.i64.wrap (8 * (i : Int)) = 8 * (i : Int) := by rw [IntKind.wrap_i64]; omega
                          have e9 : (8 * (i : Int) + (j : Int)).toNat = 8 * i + j := by omega
                          have e7 : IntKind.i64.wrap (8 * (j : Int)) = 8 * (j : Int) := by rw [IntKind.wrap_i64]; omega
                          have e8 : IntKind.u8.wrap (((v : Nat) : Int) / 2 ^ (8 * (j : Int)).toNat) = ((v / 256 ^ j % 256 : Nat) : Int) := by
                            rw [show (8 * (j : Int)).toNat = 8 * j by omega, IntKind.wrap_u8, show (2 : Int) ^ (8 * j) = ((256 ^ j : Nat) : Int) by rw [Int.pow_mul]; norm_cast]
                            simp
                          clear S8 et
                          generalize v / 256 ^ j % 256 = z at *
                          go_upto_region 24 with (fail)
                          go_still_tail 15, (by kernel_rfl)
                          change wpList _ _ _ _ _ (World.drewN _ 1)
                          go_wp2
                          go_roundw
                          case rel => first | exact ⟨j + 1, by omega, by go_num, N.out⟩ | ((repeat apply Exists.intro); exact ⟨⟨j + 1, by omega, by go_num, N.out⟩, rfl⟩)
                          case measure => first | (simp only [intOf]; omega) | (simp [intOf]; omega)
                        · have e8 : j = 8 := by omega
                          subst e8
                          rw [List.take_of_length_le (by rw [leB_length]; decide), ← HV.out, ← HMS.out] at S8
                          go_wp2
                          go_roundw
                          case rel => first | exact ⟨i + 1, by omega, by go_num, S8.out⟩ | ((repeat apply Exists.intro); exact ⟨⟨i + 1, by omega, by go_num, S8.out⟩, rfl⟩)
                          case measure => first | (simp only [intOf]; omega) | (simp [intOf]; omega)
              · have e : i = 32 := by omega
                rw [e] at S7
                have hii1 : ¬ (i : Int) < 32 := by omega
                generalize pgM M0 tl 32 = M3 at *
                go_upto_region 26 with (fail)
                go_loopw [21] (fun jv wp => ∃ j : Nat, j ≤ 4 ∧ jv = .int .i64 j ∧ S2 mb ma pb pa (M3.put 2 0 ((leB 4 ld).take j)) MF wf wp) (fun jv _ => 4 - (intOf jv).toNat)
                case atStart => exact ⟨0, by omega, rfl, by rw [List.take_zero, Me.put_nil]; exact S7.out⟩
                case round =>
                  obtain ⟨j, hj, rfl, S⟩ := hrel
                  have S8 := Lib.hid S
                  have LQ := Lib.hid (S7.out.a.len_of (i := 2) (by decide) HB2.out)
                  clear S S7
                  by_cases hjl : j < 4
                  · have hj0 : 0 ≤ (j : Int) := by omega
                    have hj1 : (j : Int) < 4 := by omega
                    have hj2 : (j : Int) < 256 := by omega
                    have q1 := S8.out.a.cell (i := 2) (by decide)
                    rw [HB2.out] at q1
                    obtain ⟨⟨y, q4⟩, q5⟩ := S8.out.a.byte (i := 2) (by decide) (S8.out.a.len_of (by decide) HB2.out) HB2.out j (by omega)
                    have et : (leB 4 ld).take (j + 1) = (leB 4 ld).take j ++ [ld / 256 ^ j % 256] := by rw [List.take_add_one, leB_get 4 ld j hjl]; rfl
                    have N := Lib.hid (S8.out.byte (y := ld / 256 ^ j % 256) (by decide) LQ.out HB2.out (by rw [List.length_take, leB_length]; omega) (Nat.mod_lt _ (by decide)) 1)
                    rw [← et, show 0 + ((leB 4 ld).take j).length = j by rw [List.length_take, leB_length]; omega] at N
                    have e7 : IntKind.i64.wrap (8 * (j : Int)) = 8 * (j : Int) := by rw [IntKind.wrap_i64]; omega
                    have e8 : IntKind.u8.wrap ((ld : Int) / 2 ^ (8 * (j : Int)).toNat) = ((ld / 256 ^ j % 256 : Nat) : Int) := by
                      rw [show (8 * (j : Int)).toNat = 8 * j by omega, IntKind.wrap_u8, show (2 : Int) ^ (8 * j) = ((256 ^ j : Nat) : Int) by rw [Int.pow_mul]; norm_cast]
                      simp
                    clear S8 et
                    generalize ld / 256 ^ j % 256 = z at *
                    go_upto_region 28 with (fail)
                    go_still_tail 12, (by kernel_rfl)
                    change wpList _ _ _ _ _ (World.drewN _ 1)
                    go_wp2
                    all_goals first
                      | (go_roundw; (case rel => first | exact ⟨j + 1, by omega, by go_num, N.out⟩ | ((repeat apply Exists.intro); exact ⟨⟨j + 1, by omega, by go_num, N.out⟩, rfl⟩)); (case measure => first | (simp only [intOf]; omega) | (simp [intOf]; omega)))
                      | (rename_i hq; rw [q5] at hq; cases hq)
                  · have e4 : j = 4 := by omega
                    subst e4
                    rw [List.take_of_length_le (by rw [leB_length]; decide), ← HMF.out] at S8
                    go_wp2
                    go_roundw
                    case rel => first | exact ⟨2, by rfl, .inr (.inr ⟨rfl, S8.out.swap⟩)⟩ | ((repeat apply Exists.intro); exact ⟨⟨2, by rfl, .inr (.inr ⟨rfl, S8.out.swap⟩)⟩, rfl⟩)
                    case measure => simp [intOf]
        · have S6 := Lib.hid S
          clear S
          have B6 := Lib.hid (B2.out.trans (S6.out.bel.mono LW.out))
          clear HMF HM0 HMS HVL HA1 HA2 HB1 HB2 RT T8 LD
          have hz := zero_val
          have HZL := Lib.hid zero_ok.len
          have hzs : zeroSe.cells.toArray.size = 26 := by simpa using HZL.out
          have hzn : ¬ zeroSe.cells.toArray = #[] := fun h => by rw [h] at hzs; simp at hzs
          have OK0 := Lib.hid (pgS_ok (r1 := 0) (r2 := 0) (by decide) (by decide))
          have OK1 := Lib.hid (pgS_ok (r1 := wd) (r2 := 0) HWD.out (by decide))
          have OK2 := Lib.hid (pgS_ok (r1 := wd) (r2 := ad) HWD.out HAD.out)
          have X0L := Lib.hid OK0.out.len
          have I0 := Lib.hid (info_se OK0.out)
          have X0O := Lib.hid (Se.one (pgS 0 0))
          have NS := Lib.hid (Own.newL B6.out zeroSe.cells (26 : Nat))
          go_upto_region 30 with ((with_reducible refine store_gate (26) (22) (101) ?_); refine wpList_store_mid rfl 26 (.tmp 22) (.tmp 101) rfl wr.heap.size 0 (pgS 0 0).cells.toArray rfl ?hv (NS.out.there ?s1) ?s2 ?s3 ?_)
          case hv =>
            show (_ : Value) = _
            kernel_rfl
          case s1 => have h1 := HZL.out; have h2 := X0L.out; simp; omega
          case s2 => simpa using I0.out
          case s3 => first | exact X0O.out | exact all_oneCell_toArray X0O.out
          have XS := Lib.hid (NS.out.setAll (pgS 0 0).cells (by rw [X0L.out, HZL.out]))
          have S9 := Lib.hid (S6.out.below (below_setCells ((Below.refl wr.heap.size wr).alloc (Nat.le_refl _) (.cells zeroSe.cells.toArray 26)) (Nat.le_refl _) 0 (pgS 0 0).cells))
          have NF := Lib.hid (show ¬ (Mm.F ma pa wr.heap.size ∨ Mm.F mb pb wr.heap.size) from fun q => by rcases q with q | q; exact (S6.out.fresh (Nat.le_refl _)).1 q; exact (S6.out.fresh (Nat.le_refl _)).2 q)
          have H8 := Lib.hid (show wf.heap.size ≤ wr.heap.size from S6.out.bel.size)
          generalize hw9 : World.setCells _ _ _ _ = w9
          have X10 := Lib.hid (show Own w wr.heap.size (pgS 0 0).cells 26 w9 from by rw [← hw9]; exact XS.out)
          have S10 := Lib.hid (show S2 ma mb pa pb MF MF wf w9 from by rw [← hw9]; exact S9.out)
          clear hw9 XS S9 NS S6 B6
          generalize wr.heap.size = ns at *
          have c1 := X10.out.cell (OK0.out.gr (i := 1) (by decide))
          have c2 := X10.out.cell (OK0.out.gr (i := 2) (by decide))
          have f1 := X10.out.fro 1
          have f2 := X10.out.fro 2
          have XR := Lib.hid ((X10.out.set 1 (.int .u64 (wd : Int))).set 2 (.int .u64 (ad : Int)))
          rw [show (pgS 0 0).cells.set 1 (.int .u64 (wd : Int)) = (pgS wd 0).cells from OK0.out.sr (i := 1) (by decide) wd, show (pgS wd 0).cells.set 2 (.int .u64 (ad : Int)) = (pgS wd ad).cells from OK1.out.sr (i := 2) (by decide) ad] at XR
          have SR := Lib.hid ((S10.out.setCO ns H8.out NF.out 1 (.int .u64 (wd : Int))).setCO ns H8.out NF.out 2 (.int .u64 (ad : Int)))
          go_upto_region 32 with (fail)
          generalize World.setCell _ _ _ = w10 at *
          clear c1 c2 f1 f2 X10 S10 I0 X0L X0O OK0 OK1
          have I2 := Lib.hid (info_se OK2.out)
          have BC := Lib.hid (both_calls (pgS wd ad) OK2.out ⟨show 0 < 256 by decide, show 0 < 256 by decide⟩ SR.out 0 0 (by decide) (tab_below HT.out XR.out.bel) (by have := LW.out; have := tab_lt HT.out; omega))
          have AO := Lib.hid (stepL_ok OK2.out ⟨show 0 < 256 by decide, show 0 < 256 by decide⟩ SR.out.a.x 0 0 (by decide))
          unfold BothP at BC
          generalize stepL (pgS wd ad) _ 0 0 = o at *
          have YL := Lib.hid AO.out.1.len
          have I1 := Lib.hid (info_se AO.out.1)
          have YO := Lib.hid (Se.one o.x)
          go_upto_region 33 with (first
            | (refine wpList_load_mid rfl 26 (.tmp 22) rfl ns 0 rfl (pgS wd ad).cells _ XR.out.all Tryd.underlying26 rfl I2.out ?_)
            | (go_at_call 15; refine BC.out.mono ?_; rintro e w11 ⟨rfl, s11, k11⟩; have B11 := Lib.hid (Keep.belowB XR.out.bel k11 XR.out.bel.size (fun i hi q => by have := SR.out.base q; have := LW.out; omega)); clear s11 k11; have N12 := Lib.hid (Own.newL B11.out zeroSe.cells (26 : Nat)))
            | (refine wpList_store_mid rfl 26 (.tmp 23) (.tmp 113) rfl w11.heap.size 0 o.x.cells.toArray rfl rfl (N12.out.there ?s4) ?s5 ?s6 ?_))
          case s4 => have h1 := HZL.out; have h2 := YL.out; simp; omega
          case s5 => simpa using I1.out
          case s6 => first | exact YO.out | exact all_oneCell_toArray YO.out
          have N13 := Lib.hid (N12.out.setAll o.x.cells (by rw [YL.out, HZL.out]))
          generalize World.setCells _ _ _ _ = w12 at *
          go_wp2
          go_ret
          exact ⟨rfl, N13.out.bel⟩
    | false =>
      go_upto_region 7 with (fail)
      have S5 := S4
      have B5 := B4
      clear S4 B4 W2 LD2
      generalize w4 = w5 at *
      generalize ld1 = ld at *
      have LD := LD1
      clear LD1
      obtain ⟨MF, hMF⟩ : ∃ M, M = (pgM M0 tl 32).put 2 0 (leB 4 ld) := ⟨_, rfl⟩
      have HMF := Lib.hid hMF
      clear hMF
      have HM0 := Lib.hid (show pgM M0 tl 0 = M0 by rw [pgM])
      have HMS := Lib.hid (fun i => pgM_succ M0 tl i)
      have HVL := Lib.hid (fun i => pgV_lt tl i)
      have hld0 : 0 ≤ (ld : Int) := by omega
      have hld1 : (ld : Int) ≤ 4294967295 := by have := LD.out; omega
      go_upto_region 8 with (fail)
      go_loopw [16, 17, 18, 19, 20, 21] (fun kv _ _ _ _ _ wr => ∃ k : Nat, kv = .int .i64 k ∧ ((k = 0 ∧ S2 ma mb pa pb M0 M0 wf wr) ∨ (k = 1 ∧ S2 ma mb pa pb MF M0 wf wr) ∨ (k = 2 ∧ S2 ma mb pa pb MF MF wf wr))) (fun kv _ _ _ _ _ _ => 2 - (intOf kv).toNat)
      case atStart => exact ⟨0, rfl, .inl ⟨rfl, S5.out⟩⟩
      case round =>
        obtain ⟨k, rfl, hst⟩ := hrel
        clear S5 B5
        rcases hst with ⟨rfl, S⟩ | ⟨rfl, S⟩ | ⟨rfl, S⟩
        · have S6 := Lib.hid S
          clear S
          go_upto_region 14 with (fail)
          as_aux_lemma =>
            go_loopw [18, 19, 20] (fun iv _ _ wq => ∃ i : Nat, i ≤ 32 ∧ iv = .int .i64 i ∧ S2 ma mb pa pb (pgM M0 tl i) M0 wf wq) (fun iv _ _ _ => 32 - (intOf iv).toNat)
            case atStart => exact ⟨0, by omega, rfl, by rw [HM0.out]; exact S6.out⟩
            case round =>
              obtain ⟨i, hi, rfl, S⟩ := hrel
              have S7 := Lib.hid S
              clear S S6
              by_cases hlt : i < 32
              · have hii0 : 0 ≤ (i : Int) := by omega
                have hii1 : (i : Int) < 32 := by omega
                by_cases hi0 : i = 0
                · have hz1 : ((i : Int) == 0) = true := by rw [hi0]; rfl
                  have HI0 := Lib.hid hi0
                  clear hi0
                  by_cases hit : i < tl.length
                  · have hit1 : (i : Int) < (tl.length : Int) := by omega
                    obtain ⟨aa, haa, hcell⟩ := row_at (RT.out.below (B2.out.trans (S7.out.bel.mono LW.out))) hit
                    generalize tl.getD i 0 = tv at *
                    have htv0 : 0 ≤ (tv : Int) := by omega
                    have hv : pgV tl i = 513 := by unfold pgV; rw [if_pos HI0.out]
                    rw [haa]
                    go_upto_region 22 with (fail)
                    as_aux_lemma =>
                      rw [show (Value.int .u64 513) = .int .u64 ((pgV tl i : Nat) : Int) by rw [hv]; first | rfl | (congr 1; omega)]
                      clear hv
                      obtain ⟨v, hv⟩ : ∃ v, pgV tl i = v := ⟨_, rfl⟩
                      have HV := Lib.hid hv
                      have VL := HVL.out i
                      rw [hv] at VL ⊢
                      clear hv
                      have hv0 : 0 ≤ (v : Int) := by omega
                      go_loopw [20] (fun jv wp => ∃ j : Nat, j ≤ 8 ∧ jv = .int .i64 j ∧ S2 ma mb pa pb ((pgM M0 tl i).put 1 (8 * i) ((leB 8 v).take j)) M0 wf wp) (fun jv _ => 8 - (intOf jv).toNat)
                      case atStart => exact ⟨0, by omega, rfl, by rw [List.take_zero, Me.put_nil]; exact S7.out⟩
                      case round =>
                        obtain ⟨j, hj, rfl, S⟩ := hrel
                        have S8 := Lib.hid S
                        have LQ := Lib.hid (S7.out.a.len_of (i := 1) (by decide) HA1.out)
                        clear S S7
                        by_cases hjl : j < 8
                        · have hj0 : 0 ≤ (j : Int) := by omega
                          have hj1 : (j : Int) < 8 := by omega
                          have q1 := S8.out.a.cell (i := 1) (by decide)
                          rw [HA1.out] at q1
                          obtain ⟨⟨y, q4⟩, q5⟩ := S8.out.a.byte (i := 1) (by decide) (S8.out.a.len_of (by decide) HA1.out) HA1.out (8 * i + j) (by omega)
                          have et : (leB 8 v).take (j + 1) = (leB 8 v).take j ++ [v / 256 ^ j % 256] := by rw [List.take_add_one, leB_get 8 v j hjl]; rfl
                          have N := Lib.hid (S8.out.byte (y := v / 256 ^ j % 256) (by decide) LQ.out HA1.out (by rw [List.length_take, leB_length]; omega) (Nat.mod_lt _ (by decide)) 1)
                          rw [← et, show 8 * i + ((leB 8 v).take j).length = 8 * i + j by rw [List.length_take, leB_length]; omega] at N
                          have e3 : 8 * (i : Int) + (j : Int) < 256 := by omega
                          have e4 : 0 ≤ 8 * (i : Int) + (j : Int) := by omega
                          have e5 : IntKind.i64.wrap (8 * (i : Int) + (j : Int)) = 8 * (i : Int) + (j : Int) := by rw [IntKind.wrap_i64]; omega
                          have e6 : IntKind.i64.wrap (8 * (i : Int)) = 8 * (i : Int) := by rw [IntKind.wrap_i64]; omega
                          have e9 : (8 * (i : Int) + (j : Int)).toNat = 8 * i + j := by omega
                          have e7 : IntKind.i64.wrap (8 * (j : Int)) = 8 * (j : Int) := by rw [IntKind.wrap_i64]; omega
                          have e8 : IntKind.u8.wrap (((v : Nat) : Int) / 2 ^ (8 * (j : Int)).toNat) = ((v / 256 ^ j % 256 : Nat) : Int) := by
                            rw [show (8 * (j : Int)).toNat = 8 * j by omega, IntKind.wrap_u8, show (2 : Int) ^ (8 * j) = ((256 ^ j : Nat) : Int) by rw [Int.pow_mul]; norm_cast]
                            simp
                          clear S8 et
                          generalize v / 256 ^ j % 256 = z at *
                          go_upto_region 24 with (fail)
                          go_still_tail 15, (by kernel_rfl)
                          change wpList _ _ _ _ _ (World.drewN _ 1)
                          go_wp2
                          go_roundw
                          case rel => first | exact ⟨j + 1, by omega, by go_num, N.out⟩ | ((repeat apply Exists.intro); exact ⟨⟨j + 1, by omega, by go_num, N.out⟩, rfl⟩)
                          case measure => first | (simp only [intOf]; omega) | (simp [intOf]; omega)
                        · have e8 : j = 8 := by omega
                          subst e8
                          rw [List.take_of_length_le (by rw [leB_length]; decide), ← HV.out, ← HMS.out] at S8
                          go_wp2
                          go_roundw
                          case rel => first | exact ⟨i + 1, by omega, by go_num, S8.out⟩ | ((repeat apply Exists.intro); exact ⟨⟨i + 1, by omega, by go_num, S8.out⟩, rfl⟩)
                          case measure => first | (simp only [intOf]; omega) | (simp [intOf]; omega)
                  · have hit1 : ¬ (i : Int) < (tl.length : Int) := by omega
                    have hv : pgV tl i = 513 := by unfold pgV; rw [if_pos HI0.out]
                    go_upto_region 22 with (fail)
                    as_aux_lemma =>
                      rw [show (Value.int .u64 513) = .int .u64 ((pgV tl i : Nat) : Int) by rw [hv]; first | rfl | (congr 1; omega)]
                      clear hv
                      obtain ⟨v, hv⟩ : ∃ v, pgV tl i = v := ⟨_, rfl⟩
                      have HV := Lib.hid hv
                      have VL := HVL.out i
                      rw [hv] at VL ⊢
                      clear hv
                      have hv0 : 0 ≤ (v : Int) := by omega
                      go_loopw [20] (fun jv wp => ∃ j : Nat, j ≤ 8 ∧ jv = .int .i64 j ∧ S2 ma mb pa pb ((pgM M0 tl i).put 1 (8 * i) ((leB 8 v).take j)) M0 wf wp) (fun jv _ => 8 - (intOf jv).toNat)
                      case atStart => exact ⟨0, by omega, rfl, by rw [List.take_zero, Me.put_nil]; exact S7.out⟩
                      case round =>
                        obtain ⟨j, hj, rfl, S⟩ := hrel
                        have S8 := Lib.hid S
                        have LQ := Lib.hid (S7.out.a.len_of (i := 1) (by decide) HA1.out)
                        clear S S7
                        by_cases hjl : j < 8
                        · have hj0 : 0 ≤ (j : Int) := by omega
                          have hj1 : (j : Int) < 8 := by omega
                          have q1 := S8.out.a.cell (i := 1) (by decide)
                          rw [HA1.out] at q1
                          obtain ⟨⟨y, q4⟩, q5⟩ := S8.out.a.byte (i := 1) (by decide) (S8.out.a.len_of (by decide) HA1.out) HA1.out (8 * i + j) (by omega)
                          have et : (leB 8 v).take (j + 1) = (leB 8 v).take j ++ [v / 256 ^ j % 256] := by rw [List.take_add_one, leB_get 8 v j hjl]; rfl
                          have N := Lib.hid (S8.out.byte (y := v / 256 ^ j % 256) (by decide) LQ.out HA1.out (by rw [List.length_take, leB_length]; omega) (Nat.mod_lt _ (by decide)) 1)
                          rw [← et, show 8 * i + ((leB 8 v).take j).length = 8 * i + j by rw [List.length_take, leB_length]; omega] at N
                          have e3 : 8 * (i : Int) + (j : Int) < 256 := by omega
                          have e4 : 0 ≤ 8 * (i : Int) + (j : Int) := by omega
                          have e5 : IntKind.i64.wrap (8 * (i : Int) + (j : Int)) = 8 * (i : Int) + (j : Int) := by rw [IntKind.wrap_i64]; omega
                          have e6 : IntKind.i64.wrap (8 * (i : Int)) = 8 * (i : Int) := by rw [IntKind.wrap_i64]; omega
                          have e9 : (8 * (i : Int) + (j : Int)).toNat = 8 * i + j := by omega
                          have e7 : IntKind.i64.wrap (8 * (j : Int)) = 8 * (j : Int) := by rw [IntKind.wrap_i64]; omega
                          have e8 : IntKind.u8.wrap (((v : Nat) : Int) / 2 ^ (8 * (j : Int)).toNat) = ((v / 256 ^ j % 256 : Nat) : Int) := by
                            rw [show (8 * (j : Int)).toNat = 8 * j by omega, IntKind.wrap_u8, show (2 : Int) ^ (8 * j) = ((256 ^ j : Nat) : Int) by rw [Int.pow_mul]; norm_cast]
                            simp
                          clear S8 et
                          generalize v / 256 ^ j % 256 = z at *
                          go_upto_region 24 with (fail)
                          go_still_tail 15, (by kernel_rfl)
                          change wpList _ _ _ _ _ (World.drewN _ 1)
                          go_wp2
                          go_roundw
                          case rel => first | exact ⟨j + 1, by omega, by go_num, N.out⟩ | ((repeat apply Exists.intro); exact ⟨⟨j + 1, by omega, by go_num, N.out⟩, rfl⟩)
                          case measure => first | (simp only [intOf]; omega) | (simp [intOf]; omega)
                        · have e8 : j = 8 := by omega
                          subst e8
                          rw [List.take_of_length_le (by rw [leB_length]; decide), ← HV.out, ← HMS.out] at S8
                          go_wp2
                          go_roundw
                          case rel => first | exact ⟨i + 1, by omega, by go_num, S8.out⟩ | ((repeat apply Exists.intro); exact ⟨⟨i + 1, by omega, by go_num, S8.out⟩, rfl⟩)
                          case measure => first | (simp only [intOf]; omega) | (simp [intOf]; omega)
                · have hz1 : ((i : Int) == 0) = false := by simp; omega
                  by_cases hit : i < tl.length
                  · have hit1 : (i : Int) < (tl.length : Int) := by omega
                    obtain ⟨aa, haa, hcell⟩ := row_at (RT.out.below (B2.out.trans (S7.out.bel.mono LW.out))) hit
                    have hv : pgV tl i = tl.getD i 0 % 16384 := by unfold pgV; rw [if_neg hi0, if_pos hit]
                    generalize tl.getD i 0 = tv at *
                    have htv0 : 0 ≤ (tv : Int) := by omega
                    rw [haa]
                    go_upto_region 22 with (fail)
                    as_aux_lemma =>
                      rw [show (Value.int .u64 ((tv : Int) % 16384)) = .int .u64 ((pgV tl i : Nat) : Int) by rw [hv]; first | rfl | (congr 1; omega)]
                      clear hv
                      obtain ⟨v, hv⟩ : ∃ v, pgV tl i = v := ⟨_, rfl⟩
                      have HV := Lib.hid hv
                      have VL := HVL.out i
                      rw [hv] at VL ⊢
                      clear hv
                      have hv0 : 0 ≤ (v : Int) := by omega
                      go_loopw [20] (fun jv wp => ∃ j : Nat, j ≤ 8 ∧ jv = .int .i64 j ∧ S2 ma mb pa pb ((pgM M0 tl i).put 1 (8 * i) ((leB 8 v).take j)) M0 wf wp) (fun jv _ => 8 - (intOf jv).toNat)
                      case atStart => exact ⟨0, by omega, rfl, by rw [List.take_zero, Me.put_nil]; exact S7.out⟩
                      case round =>
                        obtain ⟨j, hj, rfl, S⟩ := hrel
                        have S8 := Lib.hid S
                        have LQ := Lib.hid (S7.out.a.len_of (i := 1) (by decide) HA1.out)
                        clear S S7
                        by_cases hjl : j < 8
                        · have hj0 : 0 ≤ (j : Int) := by omega
                          have hj1 : (j : Int) < 8 := by omega
                          have q1 := S8.out.a.cell (i := 1) (by decide)
                          rw [HA1.out] at q1
                          obtain ⟨⟨y, q4⟩, q5⟩ := S8.out.a.byte (i := 1) (by decide) (S8.out.a.len_of (by decide) HA1.out) HA1.out (8 * i + j) (by omega)
                          have et : (leB 8 v).take (j + 1) = (leB 8 v).take j ++ [v / 256 ^ j % 256] := by rw [List.take_add_one, leB_get 8 v j hjl]; rfl
                          have N := Lib.hid (S8.out.byte (y := v / 256 ^ j % 256) (by decide) LQ.out HA1.out (by rw [List.length_take, leB_length]; omega) (Nat.mod_lt _ (by decide)) 1)
                          rw [← et, show 8 * i + ((leB 8 v).take j).length = 8 * i + j by rw [List.length_take, leB_length]; omega] at N
                          have e3 : 8 * (i : Int) + (j : Int) < 256 := by omega
                          have e4 : 0 ≤ 8 * (i : Int) + (j : Int) := by omega
                          have e5 : IntKind.i64.wrap (8 * (i : Int) + (j : Int)) = 8 * (i : Int) + (j : Int) := by rw [IntKind.wrap_i64]; omega
                          have e6 : IntKind.i64.wrap (8 * (i : Int)) = 8 * (i : Int) := by rw [IntKind.wrap_i64]; omega
                          have e9 : (8 * (i : Int) + (j : Int)).toNat = 8 * i + j := by omega
                          have e7 : IntKind.i64.wrap (8 * (j : Int)) = 8 * (j : Int) := by rw [IntKind.wrap_i64]; omega
                          have e8 : IntKind.u8.wrap (((v : Nat) : Int) / 2 ^ (8 * (j : Int)).toNat) = ((v / 256 ^ j % 256 : Nat) : Int) := by
                            rw [show (8 * (j : Int)).toNat = 8 * j by omega, IntKind.wrap_u8, show (2 : Int) ^ (8 * j) = ((256 ^ j : Nat) : Int) by rw [Int.pow_mul]; norm_cast]
                            simp
                          clear S8 et
                          generalize v / 256 ^ j % 256 = z at *
                          go_upto_region 24 with (fail)
                          go_still_tail 15, (by kernel_rfl)
                          change wpList _ _ _ _ _ (World.drewN _ 1)
                          go_wp2
                          go_roundw
                          case rel => first | exact ⟨j + 1, by omega, by go_num, N.out⟩ | ((repeat apply Exists.intro); exact ⟨⟨j + 1, by omega, by go_num, N.out⟩, rfl⟩)
                          case measure => first | (simp only [intOf]; omega) | (simp [intOf]; omega)
                        · have e8 : j = 8 := by omega
                          subst e8
                          rw [List.take_of_length_le (by rw [leB_length]; decide), ← HV.out, ← HMS.out] at S8
                          go_wp2
                          go_roundw
                          case rel => first | exact ⟨i + 1, by omega, by go_num, S8.out⟩ | ((repeat apply Exists.intro); exact ⟨⟨i + 1, by omega, by go_num, S8.out⟩, rfl⟩)
                          case measure => first | (simp only [intOf]; omega) | (simp [intOf]; omega)
                  · have hit1 : ¬ (i : Int) < (tl.length : Int) := by omega
                    have hv : pgV tl i = 0 := by unfold pgV; rw [if_neg hi0, if_neg hit]
                    go_upto_region 22 with (fail)
                    as_aux_lemma =>
                      rw [show (Value.int .u64 0) = .int .u64 ((pgV tl i : Nat) : Int) by rw [hv]; first | rfl | (congr 1; omega)]
                      clear hv
                      obtain ⟨v, hv⟩ : ∃ v, pgV tl i = v := ⟨_, rfl⟩
                      have HV := Lib.hid hv
                      have VL := HVL.out i
                      rw [hv] at VL ⊢
                      clear hv
                      have hv0 : 0 ≤ (v : Int) := by omega
                      go_loopw [20] (fun jv wp => ∃ j : Nat, j ≤ 8 ∧ jv = .int .i64 j ∧ S2 ma mb pa pb ((pgM M0 tl i).put 1 (8 * i) ((leB 8 v).take j)) M0 wf wp) (fun jv _ => 8 - (intOf jv).toNat)
                      case atStart => exact ⟨0, by omega, rfl, by rw [List.take_zero, Me.put_nil]; exact S7.out⟩
                      case round =>
                        obtain ⟨j, hj, rfl, S⟩ := hrel
                        have S8 := Lib.hid S
                        have LQ := Lib.hid (S7.out.a.len_of (i := 1) (by decide) HA1.out)
                        clear S S7
                        by_cases hjl : j < 8
                        · have hj0 : 0 ≤ (j : Int) := by omega
                          have hj1 : (j : Int) < 8 := by omega
                          have q1 := S8.out.a.cell (i := 1) (by decide)
                          rw [HA1.out] at q1
                          obtain ⟨⟨y, q4⟩, q5⟩ := S8.out.a.byte (i := 1) (by decide) (S8.out.a.len_of (by decide) HA1.out) HA1.out (8 * i + j) (by omega)
                          have et : (leB 8 v).take (j + 1) = (leB 8 v).take j ++ [v / 256 ^ j % 256] := by rw [List.take_add_one, leB_get 8 v j hjl]; rfl
                          have N := Lib.hid (S8.out.byte (y := v / 256 ^ j % 256) (by decide) LQ.out HA1.out (by rw [List.length_take, leB_length]; omega) (Nat.mod_lt _ (by decide)) 1)
                          rw [← et, show 8 * i + ((leB 8 v).take j).length = 8 * i + j by rw [List.length_take, leB_length]; omega] at N
                          have e3 : 8 * (i : Int) + (j : Int) < 256 := by omega
                          have e4 : 0 ≤ 8 * (i : Int) + (j : Int) := by omega
                          have e5 : IntKind.i64.wrap (8 * (i : Int) + (j : Int)) = 8 * (i : Int) + (j : Int) := by rw [IntKind.wrap_i64]; omega
                          have e6 : IntKind.i64.wrap (8 * (i : Int)) = 8 * (i : Int) := by rw [IntKind.wrap_i64]; omega
                          have e9 : (8 * (i : Int) + (j : Int)).toNat = 8 * i + j := by omega
                          have e7 : IntKind.i64.wrap (8 * (j : Int)) = 8 * (j : Int) := by rw [IntKind.wrap_i64]; omega
                          have e8 : IntKind.u8.wrap (((v : Nat) : Int) / 2 ^ (8 * (j : Int)).toNat) = ((v / 256 ^ j % 256 : Nat) : Int) := by
                            rw [show (8 * (j : Int)).toNat = 8 * j by omega, IntKind.wrap_u8, show (2 : Int) ^ (8 * j) = ((256 ^ j : Nat) : Int) by rw [Int.pow_mul]; norm_cast]
                            simp
                          clear S8 et
                          generalize v / 256 ^ j % 256 = z at *
                          go_upto_region 24 with (fail)
                          go_still_tail 15, (by kernel_rfl)
                          change wpList _ _ _ _ _ (World.drewN _ 1)
                          go_wp2
                          go_roundw
                          case rel => first | exact ⟨j + 1, by omega, by go_num, N.out⟩ | ((repeat apply Exists.intro); exact ⟨⟨j + 1, by omega, by go_num, N.out⟩, rfl⟩)
                          case measure => first | (simp only [intOf]; omega) | (simp [intOf]; omega)
                        · have e8 : j = 8 := by omega
                          subst e8
                          rw [List.take_of_length_le (by rw [leB_length]; decide), ← HV.out, ← HMS.out] at S8
                          go_wp2
                          go_roundw
                          case rel => first | exact ⟨i + 1, by omega, by go_num, S8.out⟩ | ((repeat apply Exists.intro); exact ⟨⟨i + 1, by omega, by go_num, S8.out⟩, rfl⟩)
                          case measure => first | (simp only [intOf]; omega) | (simp [intOf]; omega)
              · have e : i = 32 := by omega
                rw [e] at S7
                have hii1 : ¬ (i : Int) < 32 := by omega
                generalize pgM M0 tl 32 = M3 at *
                go_upto_region 26 with (fail)
                go_loopw [21] (fun jv wp => ∃ j : Nat, j ≤ 4 ∧ jv = .int .i64 j ∧ S2 ma mb pa pb (M3.put 2 0 ((leB 4 ld).take j)) M0 wf wp) (fun jv _ => 4 - (intOf jv).toNat)
                case atStart => exact ⟨0, by omega, rfl, by rw [List.take_zero, Me.put_nil]; exact S7.out⟩
                case round =>
                  obtain ⟨j, hj, rfl, S⟩ := hrel
                  have S8 := Lib.hid S
                  have LQ := Lib.hid (S7.out.a.len_of (i := 2) (by decide) HA2.out)
                  clear S S7
                  by_cases hjl : j < 4
                  · have hj0 : 0 ≤ (j : Int) := by omega
                    have hj1 : (j : Int) < 4 := by omega
                    have hj2 : (j : Int) < 256 := by omega
                    have q1 := S8.out.a.cell (i := 2) (by decide)
                    rw [HA2.out] at q1
                    obtain ⟨⟨y, q4⟩, q5⟩ := S8.out.a.byte (i := 2) (by decide) (S8.out.a.len_of (by decide) HA2.out) HA2.out j (by omega)
                    have et : (leB 4 ld).take (j + 1) = (leB 4 ld).take j ++ [ld / 256 ^ j % 256] := by rw [List.take_add_one, leB_get 4 ld j hjl]; rfl
                    have N := Lib.hid (S8.out.byte (y := ld / 256 ^ j % 256) (by decide) LQ.out HA2.out (by rw [List.length_take, leB_length]; omega) (Nat.mod_lt _ (by decide)) 1)
                    rw [← et, show 0 + ((leB 4 ld).take j).length = j by rw [List.length_take, leB_length]; omega] at N
                    have e7 : IntKind.i64.wrap (8 * (j : Int)) = 8 * (j : Int) := by rw [IntKind.wrap_i64]; omega
                    have e8 : IntKind.u8.wrap ((ld : Int) / 2 ^ (8 * (j : Int)).toNat) = ((ld / 256 ^ j % 256 : Nat) : Int) := by
                      rw [show (8 * (j : Int)).toNat = 8 * j by omega, IntKind.wrap_u8, show (2 : Int) ^ (8 * j) = ((256 ^ j : Nat) : Int) by rw [Int.pow_mul]; norm_cast]
                      simp
                    clear S8 et
                    generalize ld / 256 ^ j % 256 = z at *
                    go_upto_region 28 with (fail)
                    go_still_tail 12, (by kernel_rfl)
                    change wpList _ _ _ _ _ (World.drewN _ 1)
                    go_wp2
                    all_goals first
                      | (go_roundw; (case rel => first | exact ⟨j + 1, by omega, by go_num, N.out⟩ | ((repeat apply Exists.intro); exact ⟨⟨j + 1, by omega, by go_num, N.out⟩, rfl⟩)); (case measure => first | (simp only [intOf]; omega) | (simp [intOf]; omega)))
                      | (rename_i hq; rw [q5] at hq; cases hq)
                  · have e4 : j = 4 := by omega
                    subst e4
                    rw [List.take_of_length_le (by rw [leB_length]; decide), ← HMF.out] at S8
                    go_wp2
                    go_roundw
                    case rel => first | exact ⟨1, by rfl, .inr (.inl ⟨rfl, S8.out⟩)⟩ | ((repeat apply Exists.intro); exact ⟨⟨1, by rfl, .inr (.inl ⟨rfl, S8.out⟩)⟩, rfl⟩)
                    case measure => simp [intOf]
        · have S6 := Lib.hid S.swap
          clear S
          go_upto_region 14 with (fail)
          as_aux_lemma =>
            go_loopw [18, 19, 20] (fun iv _ _ wq => ∃ i : Nat, i ≤ 32 ∧ iv = .int .i64 i ∧ S2 mb ma pb pa (pgM M0 tl i) MF wf wq) (fun iv _ _ _ => 32 - (intOf iv).toNat)
            case atStart => exact ⟨0, by omega, rfl, by rw [HM0.out]; exact S6.out⟩
            case round =>
              obtain ⟨i, hi, rfl, S⟩ := hrel
              have S7 := Lib.hid S
              clear S S6
              by_cases hlt : i < 32
              · have hii0 : 0 ≤ (i : Int) := by omega
                have hii1 : (i : Int) < 32 := by omega
                by_cases hi0 : i = 0
                · have hz1 : ((i : Int) == 0) = true := by rw [hi0]; rfl
                  have HI0 := Lib.hid hi0
                  clear hi0
                  by_cases hit : i < tl.length
                  · have hit1 : (i : Int) < (tl.length : Int) := by omega
                    obtain ⟨aa, haa, hcell⟩ := row_at (RT.out.below (B2.out.trans (S7.out.bel.mono LW.out))) hit
                    generalize tl.getD i 0 = tv at *
                    have htv0 : 0 ≤ (tv : Int) := by omega
                    have hv : pgV tl i = 513 := by unfold pgV; rw [if_pos HI0.out]
                    rw [haa]
                    go_upto_region 22 with (fail)
                    as_aux_lemma =>
                      rw [show (Value.int .u64 513) = .int .u64 ((pgV tl i : Nat) : Int) by rw [hv]; first | rfl | (congr 1; omega)]
                      clear hv
                      obtain ⟨v, hv⟩ : ∃ v, pgV tl i = v := ⟨_, rfl⟩
                      have HV := Lib.hid hv
                      have VL := HVL.out i
                      rw [hv] at VL ⊢
                      clear hv
                      have hv0 : 0 ≤ (v : Int) := by omega
                      go_loopw [20] (fun jv wp => ∃ j : Nat, j ≤ 8 ∧ jv = .int .i64 j ∧ S2 mb ma pb pa ((pgM M0 tl i).put 1 (8 * i) ((leB 8 v).take j)) MF wf wp) (fun jv _ => 8 - (intOf jv).toNat)
                      case atStart => exact ⟨0, by omega, rfl, by rw [List.take_zero, Me.put_nil]; exact S7.out⟩
                      case round =>
                        obtain ⟨j, hj, rfl, S⟩ := hrel
                        have S8 := Lib.hid S
                        have LQ := Lib.hid (S7.out.a.len_of (i := 1) (by decide) HB1.out)
                        clear S S7
                        by_cases hjl : j < 8
                        · have hj0 : 0 ≤ (j : Int) := by omega
                          have hj1 : (j : Int) < 8 := by omega
                          have q1 := S8.out.a.cell (i := 1) (by decide)
                          rw [HB1.out] at q1
                          obtain ⟨⟨y, q4⟩, q5⟩ := S8.out.a.byte (i := 1) (by decide) (S8.out.a.len_of (by decide) HB1.out) HB1.out (8 * i + j) (by omega)
                          have et : (leB 8 v).take (j + 1) = (leB 8 v).take j ++ [v / 256 ^ j % 256] := by rw [List.take_add_one, leB_get 8 v j hjl]; rfl
                          have N := Lib.hid (S8.out.byte (y := v / 256 ^ j % 256) (by decide) LQ.out HB1.out (by rw [List.length_take, leB_length]; omega) (Nat.mod_lt _ (by decide)) 1)
                          rw [← et, show 8 * i + ((leB 8 v).take j).length = 8 * i + j by rw [List.length_take, leB_length]; omega] at N
                          have e3 : 8 * (i : Int) + (j : Int) < 256 := by omega
                          have e4 : 0 ≤ 8 * (i : Int) + (j : Int) := by omega
                          have e5 : IntKind.i64.wrap (8 * (i : Int) + (j : Int)) = 8 * (i : Int) + (j : Int) := by rw [IntKind.wrap_i64]; omega
                          have e6 : IntKind.i64.wrap (8 * (i : Int)) = 8 * (i : Int) := by rw [IntKind.wrap_i64]; omega
                          have e9 : (8 * (i : Int) + (j : Int)).toNat = 8 * i + j := by omega
                          have e7 : IntKind.i64.wrap (8 * (j : Int)) = 8 * (j : Int) := by rw [IntKind.wrap_i64]; omega
                          have e8 : IntKind.u8.wrap (((v : Nat) : Int) / 2 ^ (8 * (j : Int)).toNat) = ((v / 256 ^ j % 256 : Nat) : Int) := by
                            rw [show (8 * (j : Int)).toNat = 8 * j by omega, IntKind.wrap_u8, show (2 : Int) ^ (8 * j) = ((256 ^ j : Nat) : Int) by rw [Int.pow_mul]; norm_cast]
                            simp
                          clear S8 et
                          generalize v / 256 ^ j % 256 = z at *
                          go_upto_region 24 with (fail)
                          go_still_tail 15, (by kernel_rfl)
                          change wpList _ _ _ _ _ (World.drewN _ 1)
                          go_wp2
                          go_roundw
                          case rel => first | exact ⟨j + 1, by omega, by go_num, N.out⟩ | ((repeat apply Exists.intro); exact ⟨⟨j + 1, by omega, by go_num, N.out⟩, rfl⟩)
                          case measure => first | (simp only [intOf]; omega) | (simp [intOf]; omega)
                        · have e8 : j = 8 := by omega
                          subst e8
                          rw [List.take_of_length_le (by rw [leB_length]; decide), ← HV.out, ← HMS.out] at S8
                          go_wp2
                          go_roundw
                          case rel => first | exact ⟨i + 1, by omega, by go_num, S8.out⟩ | ((repeat apply Exists.intro); exact ⟨⟨i + 1, by omega, by go_num, S8.out⟩, rfl⟩)
                          case measure => first | (simp only [intOf]; omega) | (simp [intOf]; omega)
                  · have hit1 : ¬ (i : Int) < (tl.length : Int) := by omega
                    have hv : pgV tl i = 513 := by unfold pgV; rw [if_pos HI0.out]
                    go_upto_region 22 with (fail)
                    as_aux_lemma =>
                      rw [show (Value.int .u64 513) = .int .u64 ((pgV tl i : Nat) : Int) by rw [hv]; first | rfl | (congr 1; omega)]
                      clear hv
                      obtain ⟨v, hv⟩ : ∃ v, pgV tl i = v := ⟨_, rfl⟩
                      have HV := Lib.hid hv
                      have VL := HVL.out i
                      rw [hv] at VL ⊢
                      clear hv
                      have hv0 : 0 ≤ (v : Int) := by omega
                      go_loopw [20] (fun jv wp => ∃ j : Nat, j ≤ 8 ∧ jv = .int .i64 j ∧ S2 mb ma pb pa ((pgM M0 tl i).put 1 (8 * i) ((leB 8 v).take j)) MF wf wp) (fun jv _ => 8 - (intOf jv).toNat)
                      case atStart => exact ⟨0, by omega, rfl, by rw [List.take_zero, Me.put_nil]; exact S7.out⟩
                      case round =>
                        obtain ⟨j, hj, rfl, S⟩ := hrel
                        have S8 := Lib.hid S
                        have LQ := Lib.hid (S7.out.a.len_of (i := 1) (by decide) HB1.out)
                        clear S S7
                        by_cases hjl : j < 8
                        · have hj0 : 0 ≤ (j : Int) := by omega
                          have hj1 : (j : Int) < 8 := by omega
                          have q1 := S8.out.a.cell (i := 1) (by decide)
                          rw [HB1.out] at q1
                          obtain ⟨⟨y, q4⟩, q5⟩ := S8.out.a.byte (i := 1) (by decide) (S8.out.a.len_of (by decide) HB1.out) HB1.out (8 * i + j) (by omega)
                          have et : (leB 8 v).take (j + 1) = (leB 8 v).take j ++ [v / 256 ^ j % 256] := by rw [List.take_add_one, leB_get 8 v j hjl]; rfl
                          have N := Lib.hid (S8.out.byte (y := v / 256 ^ j % 256) (by decide) LQ.out HB1.out (by rw [List.length_take, leB_length]; omega) (Nat.mod_lt _ (by decide)) 1)
                          rw [← et, show 8 * i + ((leB 8 v).take j).length = 8 * i + j by rw [List.length_take, leB_length]; omega] at N
                          have e3 : 8 * (i : Int) + (j : Int) < 256 := by omega
                          have e4 : 0 ≤ 8 * (i : Int) + (j : Int) := by omega
                          have e5 : IntKind.i64.wrap (8 * (i : Int) + (j : Int)) = 8 * (i : Int) + (j : Int) := by rw [IntKind.wrap_i64]; omega
                          have e6 : IntKind.i64.wrap (8 * (i : Int)) = 8 * (i : Int) := by rw [IntKind.wrap_i64]; omega
                          have e9 : (8 * (i : Int) + (j : Int)).toNat = 8 * i + j := by omega
                          have e7 : IntKind.i64.wrap (8 * (j : Int)) = 8 * (j : Int) := by rw [IntKind.wrap_i64]; omega
                          have e8 : IntKind.u8.wrap (((v : Nat) : Int) / 2 ^ (8 * (j : Int)).toNat) = ((v / 256 ^ j % 256 : Nat) : Int) := by
                            rw [show (8 * (j : Int)).toNat = 8 * j by omega, IntKind.wrap_u8, show (2 : Int) ^ (8 * j) = ((256 ^ j : Nat) : Int) by rw [Int.pow_mul]; norm_cast]
                            simp
                          clear S8 et
                          generalize v / 256 ^ j % 256 = z at *
                          go_upto_region 24 with (fail)
                          go_still_tail 15, (by kernel_rfl)
                          change wpList _ _ _ _ _ (World.drewN _ 1)
                          go_wp2
                          go_roundw
                          case rel => first | exact ⟨j + 1, by omega, by go_num, N.out⟩ | ((repeat apply Exists.intro); exact ⟨⟨j + 1, by omega, by go_num, N.out⟩, rfl⟩)
                          case measure => first | (simp only [intOf]; omega) | (simp [intOf]; omega)
                        · have e8 : j = 8 := by omega
                          subst e8
                          rw [List.take_of_length_le (by rw [leB_length]; decide), ← HV.out, ← HMS.out] at S8
                          go_wp2
                          go_roundw
                          case rel => first | exact ⟨i + 1, by omega, by go_num, S8.out⟩ | ((repeat apply Exists.intro); exact ⟨⟨i + 1, by omega, by go_num, S8.out⟩, rfl⟩)
                          case measure => first | (simp only [intOf]; omega) | (simp [intOf]; omega)
                · have hz1 : ((i : Int) == 0) = false := by simp; omega
                  by_cases hit : i < tl.length
                  · have hit1 : (i : Int) < (tl.length : Int) := by omega
                    obtain ⟨aa, haa, hcell⟩ := row_at (RT.out.below (B2.out.trans (S7.out.bel.mono LW.out))) hit
                    have hv : pgV tl i = tl.getD i 0 % 16384 := by unfold pgV; rw [if_neg hi0, if_pos hit]
                    generalize tl.getD i 0 = tv at *
                    have htv0 : 0 ≤ (tv : Int) := by omega
                    rw [haa]
                    go_upto_region 22 with (fail)
                    as_aux_lemma =>
                      rw [show (Value.int .u64 ((tv : Int) % 16384)) = .int .u64 ((pgV tl i : Nat) : Int) by rw [hv]; first | rfl | (congr 1; omega)]
                      clear hv
                      obtain ⟨v, hv⟩ : ∃ v, pgV tl i = v := ⟨_, rfl⟩
                      have HV := Lib.hid hv
                      have VL := HVL.out i
                      rw [hv] at VL ⊢
                      clear hv
                      have hv0 : 0 ≤ (v : Int) := by omega
                      go_loopw [20] (fun jv wp => ∃ j : Nat, j ≤ 8 ∧ jv = .int .i64 j ∧ S2 mb ma pb pa ((pgM M0 tl i).put 1 (8 * i) ((leB 8 v).take j)) MF wf wp) (fun jv _ => 8 - (intOf jv).toNat)
                      case atStart => exact ⟨0, by omega, rfl, by rw [List.take_zero, Me.put_nil]; exact S7.out⟩
                      case round =>
                        obtain ⟨j, hj, rfl, S⟩ := hrel
                        have S8 := Lib.hid S
                        have LQ := Lib.hid (S7.out.a.len_of (i := 1) (by decide) HB1.out)
                        clear S S7
                        by_cases hjl : j < 8
                        · have hj0 : 0 ≤ (j : Int) := by omega
                          have hj1 : (j : Int) < 8 := by omega
                          have q1 := S8.out.a.cell (i := 1) (by decide)
                          rw [HB1.out] at q1
                          obtain ⟨⟨y, q4⟩, q5⟩ := S8.out.a.byte (i := 1) (by decide) (S8.out.a.len_of (by decide) HB1.out) HB1.out (8 * i + j) (by omega)
                          have et : (leB 8 v).take (j + 1) = (leB 8 v).take j ++ [v / 256 ^ j % 256] := by rw [List.take_add_one, leB_get 8 v j hjl]; rfl
                          have N := Lib.hid (S8.out.byte (y := v / 256 ^ j % 256) (by decide) LQ.out HB1.out (by rw [List.length_take, leB_length]; omega) (Nat.mod_lt _ (by decide)) 1)
                          rw [← et, show 8 * i + ((leB 8 v).take j).length = 8 * i + j by rw [List.length_take, leB_length]; omega] at N
                          have e3 : 8 * (i : Int) + (j : Int) < 256 := by omega
                          have e4 : 0 ≤ 8 * (i : Int) + (j : Int) := by omega
                          have e5 : IntKind.i64.wrap (8 * (i : Int) + (j : Int)) = 8 * (i : Int) + (j : Int) := by rw [IntKind.wrap_i64]; omega
                          have e6 : IntKind.i64.wrap (8 * (i : Int)) = 8 * (i : Int) := by rw [IntKind.wrap_i64]; omega
                          have e9 : (8 * (i : Int) + (j : Int)).toNat = 8 * i + j := by omega
                          have e7 : IntKind.i64.wrap (8 * (j : Int)) = 8 * (j : Int) := by rw [IntKind.wrap_i64]; omega
                          have e8 : IntKind.u8.wrap (((v : Nat) : Int) / 2 ^ (8 * (j : Int)).toNat) = ((v / 256 ^ j % 256 : Nat) : Int) := by
                            rw [show (8 * (j : Int)).toNat = 8 * j by omega, IntKind.wrap_u8, show (2 : Int) ^ (8 * j) = ((256 ^ j : Nat) : Int) by rw [Int.pow_mul]; norm_cast]
                            simp
                          clear S8 et
                          generalize v / 256 ^ j % 256 = z at *
                          go_upto_region 24 with (fail)
                          go_still_tail 15, (by kernel_rfl)
                          change wpList _ _ _ _ _ (World.drewN _ 1)
                          go_wp2
                          go_roundw
                          case rel => first | exact ⟨j + 1, by omega, by go_num, N.out⟩ | ((repeat apply Exists.intro); exact ⟨⟨j + 1, by omega, by go_num, N.out⟩, rfl⟩)
                          case measure => first | (simp only [intOf]; omega) | (simp [intOf]; omega)
                        · have e8 : j = 8 := by omega
                          subst e8
                          rw [List.take_of_length_le (by rw [leB_length]; decide), ← HV.out, ← HMS.out] at S8
                          go_wp2
                          go_roundw
                          case rel => first | exact ⟨i + 1, by omega, by go_num, S8.out⟩ | ((repeat apply Exists.intro); exact ⟨⟨i + 1, by omega, by go_num, S8.out⟩, rfl⟩)
                          case measure => first | (simp only [intOf]; omega) | (simp [intOf]; omega)
                  · have hit1 : ¬ (i : Int) < (tl.length : Int) := by omega
                    have hv : pgV tl i = 0 := by unfold pgV; rw [if_neg hi0, if_neg hit]
                    go_upto_region 22 with (fail)
                    as_aux_lemma =>
                      rw [show (Value.int .u64 0) = .int .u64 ((pgV tl i : Nat) : Int) by rw [hv]; first | rfl | (congr 1; omega)]
                      clear hv
                      obtain ⟨v, hv⟩ : ∃ v, pgV tl i = v := ⟨_, rfl⟩
                      have HV := Lib.hid hv
                      have VL := HVL.out i
                      rw [hv] at VL ⊢
                      clear hv
                      have hv0 : 0 ≤ (v : Int) := by omega
                      go_loopw [20] (fun jv wp => ∃ j : Nat, j ≤ 8 ∧ jv = .int .i64 j ∧ S2 mb ma pb pa ((pgM M0 tl i).put 1 (8 * i) ((leB 8 v).take j)) MF wf wp) (fun jv _ => 8 - (intOf jv).toNat)
                      case atStart => exact ⟨0, by omega, rfl, by rw [List.take_zero, Me.put_nil]; exact S7.out⟩
                      case round =>
                        obtain ⟨j, hj, rfl, S⟩ := hrel
                        have S8 := Lib.hid S
                        have LQ := Lib.hid (S7.out.a.len_of (i := 1) (by decide) HB1.out)
                        clear S S7
                        by_cases hjl : j < 8
                        · have hj0 : 0 ≤ (j : Int) := by omega
                          have hj1 : (j : Int) < 8 := by omega
                          have q1 := S8.out.a.cell (i := 1) (by decide)
                          rw [HB1.out] at q1
                          obtain ⟨⟨y, q4⟩, q5⟩ := S8.out.a.byte (i := 1) (by decide) (S8.out.a.len_of (by decide) HB1.out) HB1.out (8 * i + j) (by omega)
                          have et : (leB 8 v).take (j + 1) = (leB 8 v).take j ++ [v / 256 ^ j % 256] := by rw [List.take_add_one, leB_get 8 v j hjl]; rfl
                          have N := Lib.hid (S8.out.byte (y := v / 256 ^ j % 256) (by decide) LQ.out HB1.out (by rw [List.length_take, leB_length]; omega) (Nat.mod_lt _ (by decide)) 1)
                          rw [← et, show 8 * i + ((leB 8 v).take j).length = 8 * i + j by rw [List.length_take, leB_length]; omega] at N
                          have e3 : 8 * (i : Int) + (j : Int) < 256 := by omega
                          have e4 : 0 ≤ 8 * (i : Int) + (j : Int) := by omega
                          have e5 : IntKind.i64.wrap (8 * (i : Int) + (j : Int)) = 8 * (i : Int) + (j : Int) := by rw [IntKind.wrap_i64]; omega
                          have e6 : IntKind.i64.wrap (8 * (i : Int)) = 8 * (i : Int) := by rw [IntKind.wrap_i64]; omega
                          have e9 : (8 * (i : Int) + (j : Int)).toNat = 8 * i + j := by omega
                          have e7 : IntKind.i64.wrap (8 * (j : Int)) = 8 * (j : Int) := by rw [IntKind.wrap_i64]; omega
                          have e8 : IntKind.u8.wrap (((v : Nat) : Int) / 2 ^ (8 * (j : Int)).toNat) = ((v / 256 ^ j % 256 : Nat) : Int) := by
                            rw [show (8 * (j : Int)).toNat = 8 * j by omega, IntKind.wrap_u8, show (2 : Int) ^ (8 * j) = ((256 ^ j : Nat) : Int) by rw [Int.pow_mul]; norm_cast]
                            simp
                          clear S8 et
                          generalize v / 256 ^ j % 256 = z at *
                          go_upto_region 24 with (fail)
                          go_still_tail 15, (by kernel_rfl)
                          change wpList _ _ _ _ _ (World.drewN _ 1)
                          go_wp2
                          go_roundw
                          case rel => first | exact ⟨j + 1, by omega, by go_num, N.out⟩ | ((repeat apply Exists.intro); exact ⟨⟨j + 1, by omega, by go_num, N.out⟩, rfl⟩)
                          case measure => first | (simp only [intOf]; omega) | (simp [intOf]; omega)
                        · have e8 : j = 8 := by omega
                          subst e8
                          rw [List.take_of_length_le (by rw [leB_length]; decide), ← HV.out, ← HMS.out] at S8
                          go_wp2
                          go_roundw
                          case rel => first | exact ⟨i + 1, by omega, by go_num, S8.out⟩ | ((repeat apply Exists.intro); exact ⟨⟨i + 1, by omega, by go_num, S8.out⟩, rfl⟩)
                          case measure => first | (simp only [intOf]; omega) | (simp [intOf]; omega)
              · have e : i = 32 := by omega
                rw [e] at S7
                have hii1 : ¬ (i : Int) < 32 := by omega
                generalize pgM M0 tl 32 = M3 at *
                go_upto_region 26 with (fail)
                go_loopw [21] (fun jv wp => ∃ j : Nat, j ≤ 4 ∧ jv = .int .i64 j ∧ S2 mb ma pb pa (M3.put 2 0 ((leB 4 ld).take j)) MF wf wp) (fun jv _ => 4 - (intOf jv).toNat)
                case atStart => exact ⟨0, by omega, rfl, by rw [List.take_zero, Me.put_nil]; exact S7.out⟩
                case round =>
                  obtain ⟨j, hj, rfl, S⟩ := hrel
                  have S8 := Lib.hid S
                  have LQ := Lib.hid (S7.out.a.len_of (i := 2) (by decide) HB2.out)
                  clear S S7
                  by_cases hjl : j < 4
                  · have hj0 : 0 ≤ (j : Int) := by omega
                    have hj1 : (j : Int) < 4 := by omega
                    have hj2 : (j : Int) < 256 := by omega
                    have q1 := S8.out.a.cell (i := 2) (by decide)
                    rw [HB2.out] at q1
                    obtain ⟨⟨y, q4⟩, q5⟩ := S8.out.a.byte (i := 2) (by decide) (S8.out.a.len_of (by decide) HB2.out) HB2.out j (by omega)
                    have et : (leB 4 ld).take (j + 1) = (leB 4 ld).take j ++ [ld / 256 ^ j % 256] := by rw [List.take_add_one, leB_get 4 ld j hjl]; rfl
                    have N := Lib.hid (S8.out.byte (y := ld / 256 ^ j % 256) (by decide) LQ.out HB2.out (by rw [List.length_take, leB_length]; omega) (Nat.mod_lt _ (by decide)) 1)
                    rw [← et, show 0 + ((leB 4 ld).take j).length = j by rw [List.length_take, leB_length]; omega] at N
                    have e7 : IntKind.i64.wrap (8 * (j : Int)) = 8 * (j : Int) := by rw [IntKind.wrap_i64]; omega
                    have e8 : IntKind.u8.wrap ((ld : Int) / 2 ^ (8 * (j : Int)).toNat) = ((ld / 256 ^ j % 256 : Nat) : Int) := by
                      rw [show (8 * (j : Int)).toNat = 8 * j by omega, IntKind.wrap_u8, show (2 : Int) ^ (8 * j) = ((256 ^ j : Nat) : Int) by rw [Int.pow_mul]; norm_cast]
                      simp
                    clear S8 et
                    generalize ld / 256 ^ j % 256 = z at *
                    go_upto_region 28 with (fail)
                    go_still_tail 12, (by kernel_rfl)
                    change wpList _ _ _ _ _ (World.drewN _ 1)
                    go_wp2
                    all_goals first
                      | (go_roundw; (case rel => first | exact ⟨j + 1, by omega, by go_num, N.out⟩ | ((repeat apply Exists.intro); exact ⟨⟨j + 1, by omega, by go_num, N.out⟩, rfl⟩)); (case measure => first | (simp only [intOf]; omega) | (simp [intOf]; omega)))
                      | (rename_i hq; rw [q5] at hq; cases hq)
                  · have e4 : j = 4 := by omega
                    subst e4
                    rw [List.take_of_length_le (by rw [leB_length]; decide), ← HMF.out] at S8
                    go_wp2
                    go_roundw
                    case rel => first | exact ⟨2, by rfl, .inr (.inr ⟨rfl, S8.out.swap⟩)⟩ | ((repeat apply Exists.intro); exact ⟨⟨2, by rfl, .inr (.inr ⟨rfl, S8.out.swap⟩)⟩, rfl⟩)
                    case measure => simp [intOf]
        · have S6 := Lib.hid S
          clear S
          have B6 := Lib.hid (B2.out.trans (S6.out.bel.mono LW.out))
          clear HMF HM0 HMS HVL HA1 HA2 HB1 HB2 RT T8 LD
          have hz := zero_val
          have HZL := Lib.hid zero_ok.len
          have hzs : zeroSe.cells.toArray.size = 26 := by simpa using HZL.out
          have hzn : ¬ zeroSe.cells.toArray = #[] := fun h => by rw [h] at hzs; simp at hzs
          have OK0 := Lib.hid (pgS_ok (r1 := 0) (r2 := 0) (by decide) (by decide))
          have OK1 := Lib.hid (pgS_ok (r1 := wd) (r2 := 0) HWD.out (by decide))
          have OK2 := Lib.hid (pgS_ok (r1 := wd) (r2 := ad) HWD.out HAD.out)
          have X0L := Lib.hid OK0.out.len
          have I0 := Lib.hid (info_se OK0.out)
          have X0O := Lib.hid (Se.one (pgS 0 0))
          have NS := Lib.hid (Own.newL B6.out zeroSe.cells (26 : Nat))
          go_upto_region 30 with ((with_reducible refine store_gate (26) (22) (101) ?_); refine wpList_store_mid rfl 26 (.tmp 22) (.tmp 101) rfl wr.heap.size 0 (pgS 0 0).cells.toArray rfl ?hv (NS.out.there ?s1) ?s2 ?s3 ?_)
          case hv =>
            show (_ : Value) = _
            kernel_rfl
          case s1 => have h1 := HZL.out; have h2 := X0L.out; simp; omega
          case s2 => simpa using I0.out
          case s3 => first | exact X0O.out | exact all_oneCell_toArray X0O.out
          have XS := Lib.hid (NS.out.setAll (pgS 0 0).cells (by rw [X0L.out, HZL.out]))
          have S9 := Lib.hid (S6.out.below (below_setCells ((Below.refl wr.heap.size wr).alloc (Nat.le_refl _) (.cells zeroSe.cells.toArray 26)) (Nat.le_refl _) 0 (pgS 0 0).cells))
          have NF := Lib.hid (show ¬ (Mm.F ma pa wr.heap.size ∨ Mm.F mb pb wr.heap.size) from fun q => by rcases q with q | q; exact (S6.out.fresh (Nat.le_refl _)).1 q; exact (S6.out.fresh (Nat.le_refl _)).2 q)
          have H8 := Lib.hid (show wf.heap.size ≤ wr.heap.size from S6.out.bel.size)
          generalize hw9 : World.setCells _ _ _ _ = w9
          have X10 := Lib.hid (show Own w wr.heap.size (pgS 0 0).cells 26 w9 from by rw [← hw9]; exact XS.out)
          have S10 := Lib.hid (show S2 ma mb pa pb MF MF wf w9 from by rw [← hw9]; exact S9.out)
          clear hw9 XS S9 NS S6 B6
          generalize wr.heap.size = ns at *
          have c1 := X10.out.cell (OK0.out.gr (i := 1) (by decide))
          have c2 := X10.out.cell (OK0.out.gr (i := 2) (by decide))
          have f1 := X10.out.fro 1
          have f2 := X10.out.fro 2
          have XR := Lib.hid ((X10.out.set 1 (.int .u64 (wd : Int))).set 2 (.int .u64 (ad : Int)))
          rw [show (pgS 0 0).cells.set 1 (.int .u64 (wd : Int)) = (pgS wd 0).cells from OK0.out.sr (i := 1) (by decide) wd, show (pgS wd 0).cells.set 2 (.int .u64 (ad : Int)) = (pgS wd ad).cells from OK1.out.sr (i := 2) (by decide) ad] at XR
          have SR := Lib.hid ((S10.out.setCO ns H8.out NF.out 1 (.int .u64 (wd : Int))).setCO ns H8.out NF.out 2 (.int .u64 (ad : Int)))
          go_upto_region 32 with (fail)
          generalize World.setCell _ _ _ = w10 at *
          clear c1 c2 f1 f2 X10 S10 I0 X0L X0O OK0 OK1
          have I2 := Lib.hid (info_se OK2.out)
          have BC := Lib.hid (both_calls (pgS wd ad) OK2.out ⟨show 0 < 256 by decide, show 0 < 256 by decide⟩ SR.out 0 0 (by decide) (tab_below HT.out XR.out.bel) (by have := LW.out; have := tab_lt HT.out; omega))
          have AO := Lib.hid (stepL_ok OK2.out ⟨show 0 < 256 by decide, show 0 < 256 by decide⟩ SR.out.a.x 0 0 (by decide))
          unfold BothP at BC
          generalize stepL (pgS wd ad) _ 0 0 = o at *
          have YL := Lib.hid AO.out.1.len
          have I1 := Lib.hid (info_se AO.out.1)
          have YO := Lib.hid (Se.one o.x)
          go_upto_region 33 with (first
            | (refine wpList_load_mid rfl 26 (.tmp 22) rfl ns 0 rfl (pgS wd ad).cells _ XR.out.all Tryd.underlying26 rfl I2.out ?_)
            | (go_at_call 15; refine BC.out.mono ?_; rintro e w11 ⟨rfl, s11, k11⟩; have B11 := Lib.hid (Keep.belowB XR.out.bel k11 XR.out.bel.size (fun i hi q => by have := SR.out.base q; have := LW.out; omega)); clear s11 k11; have N12 := Lib.hid (Own.newL B11.out zeroSe.cells (26 : Nat)))
            | (refine wpList_store_mid rfl 26 (.tmp 23) (.tmp 113) rfl w11.heap.size 0 o.x.cells.toArray rfl rfl (N12.out.there ?s4) ?s5 ?s6 ?_))
          case s4 => have h1 := HZL.out; have h2 := YL.out; simp; omega
          case s5 => simpa using I1.out
          case s6 => first | exact YO.out | exact all_oneCell_toArray YO.out
          have N13 := Lib.hid (N12.out.setAll o.x.cells (by rw [YL.out, HZL.out]))
          generalize World.setCells _ _ _ _ = w12 at *
          go_wp2
          go_ret
          exact ⟨rfl, N13.out.bel⟩
  · have hl2 : (32 : Int) < tl.length := by omega
    go_enter Tryd.func6, Tryd.ntmps6
    go_upto_region 2 with (go_at_call 10; refine (awake_calls _ HT.out).mono ?_; rintro e w2 ⟨rfl, u⟩; have B2 := Lib.hid u; clear u)
    go_wp2_with (go_at_call 10; refine (awake_calls _ (tab_below HT.out B2.out)).mono ?_; rintro e w3 ⟨rfl, u⟩; have B3 := Lib.hid (B2.out.trans (u.mono B2.out.size)); clear u)
    go_ret
    exact ⟨rfl, B3.out⟩
end Go.Proofs.YtjlodddlbgpcdaaDoor.Walks
