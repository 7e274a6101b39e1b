/- Walks through the functions of the statement, and the statement over them: each contract says what the call answers and that nothing else changes. -/
import Derived.Test.YtjlodddlbgpcdaaDoorProg
import Derived.Test.YtjlodddlbgpcdaaDoorBits
import Derived.Test.YtjlodddlbgpcdaaDoorHeap
import Derived.Test.YtjlodddlbgpcdaaDoorAid
import Derived.Test.YtjlodddlbgpcdaaDoorArr
import Derived.Test.YtjlodddlbgpcdaaDoorEql
import Derived.Test.YtjlodddlbgpcdaaDoorWalkBase
import Derived.Test.YtjlodddlbgpcdaaDoorWalkCode
import Derived.Test.YtjlodddlbgpcdaaDoorWalkSeat
import Derived.Test.YtjlodddlbgpcdaaDoorWalkRef
import Derived.Test.YtjlodddlbgpcdaaDoorWalkRefR
import Derived.Test.YtjlodddlbgpcdaaDoorWalkBus
import Derived.Test.YtjlodddlbgpcdaaDoorWalkBus2
import Derived.Test.YtjlodddlbgpcdaaDoorWalkRefP
import Derived.Test.YtjlodddlbgpcdaaDoorWalkRefG
import Derived.Test.YtjlodddlbgpcdaaDoorWalkRefL
import Derived.Test.YtjlodddlbgpcdaaDoorWalkDo
import Derived.Test.YtjlodddlbgpcdaaDoorWalkDo2
import Derived.Test.YtjlodddlbgpcdaaDoorWalkStep
import Derived.Test.YtjlodddlbgpcdaaDoorWalkSome
import Derived.Test.YtjlodddlbgpcdaaDoorWalkAwake
import Derived.Test.YtjlodddlbgpcdaaDoorWalkNil
import Derived.Test.YtjlodddlbgpcdaaDoorWalkPl
import Derived.Test.YtjlodddlbgpcdaaDoorWalkRs0
import Derived.Test.YtjlodddlbgpcdaaDoorWalkRs1
import Derived.Test.YtjlodddlbgpcdaaDoorWalkRs2
import Derived.Test.YtjlodddlbgpcdaaDoorWalkRs3
import Derived.Test.YtjlodddlbgpcdaaDoorWalkRs4
import Derived.Test.YtjlodddlbgpcdaaDoorWalkRsA
import Derived.Test.YtjlodddlbgpcdaaDoorWalkBoth
import Derived.Lib.Hide
import Derived.WalkKit
import Derived.WalkSpells
import Derived.WalkLawsBesides
import Derived.Deep.QuietTactic
import Derived.BigQuiet
import Derived.Deep.RegionHeld3
import Derived.Deep.DeepCutAuto
import Derived.Deep.CutBlock
import Derived.Lib.SlBytesConst
import Derived.StillTailTactics
import Derived.RegionTactic
import Derived.Deep.RegionLaw
import Derived.Laws.BytesString
import Derived.Laws.MakeOwn
import Derived.Deep.AppendLies
import Derived.Laws.CopyOwn
import Derived.Maps.AppendAt
import Derived.Deep.Upon
import Derived.Deep.AppendSrc
import Derived.Shelf.Abstract
import Derived.Shelf.Spec.TrailingZeros
namespace Go.Proofs.YtjlodddlbgpcdaaDoor.Walks
set_option linter.unusedVariables false
set_option linter.unusedSimpArgs false
open Go.RowKit Go.Proofs.YtjlodddlbgpcdaaDoor.Bits Go.Proofs.YtjlodddlbgpcdaaDoor.Heap Go.Proofs.YtjlodddlbgpcdaaDoor.Aid Go.Proofs.YtjlodddlbgpcdaaDoor.Arr Go.Proofs.YtjlodddlbgpcdaaDoor.Eql

theorem near_ok8 (x : Se) : (nearS x).Ok8 := ⟨by show x.pe % 256 < 256; omega, by show x.ma % 256 < 256; omega⟩
def rawS (x : Se) : Se := (({ nearS x with st := 0 } : Se).reg 16 0).reg 17 0
theorem rawS_ok {x : Se} (h : x.Ok) : (rawS x).Ok :=
  (Se.Ok.reg (x := { nearS x with st := 0 }) ⟨(near_ok h).l, (near_ok h).w, by show 0 < 256; omega, (near_ok h).p, (near_ok h).m⟩ (a := 16) (v := 0) (by decide)).reg (a := 17) (v := 0) (by decide)
theorem rawS_ok8 (x : Se) : (rawS x).Ok8 := ⟨(near_ok8 x).p, (near_ok8 x).m⟩
theorem rawS_cells {x : Se} (h : x.Ok) : (((nearS x).cells.set 23 (.int .u8 0)).set 16 (.int .u64 0)).set 17 (.int .u64 0) = (rawS x).cells := by
  have h1 : ({ nearS x with st := 0 } : Se).Ok := ⟨(near_ok h).l, (near_ok h).w, by show 0 < 256; omega, (near_ok h).p, (near_ok h).m⟩
  have e1 : (nearS x).cells.set 23 (.int .u8 0) = ({ nearS x with st := 0 } : Se).cells := (near_ok h).s23 0
  have e2 : ({ nearS x with st := 0 } : Se).cells.set 16 (.int .u64 0) = (({ nearS x with st := 0 } : Se).reg 16 0).cells := h1.sr (i := 16) (by decide) 0
  have e3 := (h1.reg (a := 16) (v := 0) (by decide)).sr (i := 17) (by decide) 0
  rw [e1, e2]
  exact e3
/-- The bytes of a word of 32 bits, as the text has them. -/
theorem byte4 (n : Nat) : leB 4 n = [n % 256, n / 256 % 256, n / 65536 % 256, n / 16777216 % 256] := by
  simp only [leB, Nat.div_div_eq_div_mul]
theorem four_cells {n : Nat} (hn : n < 2 ^ 32) : [Value.int .u8 ((n : Int) % 256), .int .u8 ((n : Int) / 256 % 256), .int .u8 ((n : Int) / 65536 % 256), .int .u8 ((n : Int) / 16777216)] = (leB 4 n).map enc8 := by
  rw [byte4]
  have e : n / 16777216 % 256 = n / 16777216 := by omega
  simp only [List.map_cons, List.map_nil, enc8, e]
  simp
theorem bs_four {w0 w : World} (hb : Below w0.heap.size w0 w) {n : Nat} (hn : n < 2 ^ 32) : Bs w0 w.heap.size (.slice (some ⟨w.heap.size, 0, none⟩) 4 4) (leB 4 n) (w.alloc (.cells #[.int .u8 ((n : Int) % 256), .int .u8 ((n : Int) / 256 % 256), .int .u8 ((n : Int) / 65536 % 256), .int .u8 ((n : Int) / 16777216)] 5)) := by
  have k := Blk.new w #[.int .u8 ((n : Int) % 256), .int .u8 ((n : Int) / 256 % 256), .int .u8 ((n : Int) / 65536 % 256), .int .u8 ((n : Int) / 16777216)] 5
  rw [show (#[.int .u8 ((n : Int) % 256), .int .u8 ((n : Int) / 256 % 256), .int .u8 ((n : Int) / 65536 % 256), .int .u8 ((n : Int) / 16777216)] : Array Value).toList = (leB 4 n).map enc8 from four_cells hn] at k
  have r := owns_blk k (Nat.le_refl _) (by rw [List.length_map, leB_length]; decide)
  rw [List.length_map, leB_length] at r
  exact ⟨hb.alloc hb.size _, hb.size, by simp, by rw [leB_length]; exact r⟩
theorem or_one {n : Nat} (h : n < 2 ^ 32) : bits .or .u32 (n : Int) 1 = ((n ||| 1 : Nat) : Int) := bits_or (k := .u32) rfl (m := n) (n := 1) h (by decide)
theorem row_take {w : World} {g n cap : Nat} {l : List Nat} (h : Row w enc8 (.slice (some ⟨g, 0, none⟩) l.length cap) l) (hn : n ≤ l.length) : Row w enc8 (.slice (some ⟨g, 0, none⟩) n cap) (l.take n) := by
  have e : (l.take n).length = n := by rw [List.length_take]; omega
  rcases h with ⟨h, _⟩ | ⟨a, c, hv, hc, hx⟩
  · cases h
  · injection hv with h1 h2 h3
    injection h1 with h1
    subst h1
    subst h3
    refine .inr ⟨⟨g, 0, none⟩, cap, by rw [e], by rw [e]; omega, fun i x hi => ?_⟩
    rw [List.getElem?_take] at hi
    split at hi
    · exact hx i x hi
    · cases hi
set_option maxRecDepth 8000 in
set_option maxHeartbeats 8000000 in
theorem cpuRaw_walk (c : List Value) (a1 a2 a3 : Int) (v4 : Value) (w : World) (f : Fits w seSh c) (wa1 : (Lit.int .u32 a1).wf = true) (wa2 : (Lit.int .u32 a2).wf = true) (wa3 : (Lit.int .u32 a3).wf = true) (f4 : Fits w (.slice (.int .u8)) [v4]) (hT : TabAt 0 Lib.deBruijn64tab w) :
    Calls Tryd.prog 4 #[.agg c.toArray, .int .u32 a1, .int .u32 a2, .int .u32 a3, v4] w fun e w' => e = .returned (.bool true) ∧ Below w.heap.size w w' := by
  obtain ⟨x, rfl, h⟩ := seat_of_fits f
  obtain ⟨ql, rq, hq8, hqm⟩ := bytes_row f4
  obtain ⟨n, rfl, hn⟩ := Bits.wf_u32 wa1
  obtain ⟨here, rfl, hh⟩ := Bits.wf_u32 wa2
  obtain ⟨wr, rfl, hw⟩ := Bits.wf_u32 wa3
  clear f f4 wa1 wa2 wa3
  obtain ⟨aq, cq, rfl⟩ := rq.form
  have RQ := Lib.hid rq
  have Q8 := Lib.hid hq8
  have HT := Lib.hid hT
  have LX := Lib.hid h.len
  have IX := Lib.hid (info_se h)
  have okn := Lib.hid (near_ok h)
  have HN := Lib.hid (near_calls x h)
  have IN := Lib.hid (info_se okn.out)
  have LN := Lib.hid okn.out.len
  have ON := Lib.hid (Se.one (nearS x))
  have G16 := Lib.hid (okn.out.gr (i := 16) (by decide))
  have G17 := Lib.hid (okn.out.gr (i := 17) (by decide))
  have G23 := Lib.hid okn.out.g23
  have RC := Lib.hid (rawS_cells h)
  have OKR := Lib.hid (rawS_ok h)
  have OK8 := Lib.hid (rawS_ok8 x)
  have IR := Lib.hid (info_se OKR.out)
  generalize rawS x = z at *
  generalize hYC : (nearS x).cells = YC at *
  generalize x.cells = XC at *
  clear hYC h rq hq8 hT
  have hlq : (ql.length : Int) ≤ 9223372036854775807 := by unfold maxLen at hqm; omega
  have hlq0 : 0 ≤ (ql.length : Int) := by omega
  have X1 : Hid (Own w w.heap.size XC 26 (w.alloc (.cells XC.toArray 26))) := Own.newL (Below.refl _ _) _ _
  by_cases hlen : ql.length ≤ 256
  · have hl2 : ¬ (256 : Int) < ql.length := by omega
    go_enter Tryd.func4, Tryd.ntmps4
    go_upto_region 1 with (fail)
    generalize w.alloc (.cells XC.toArray 26) = w1 at *
    go_upto_region 3 with (go_at_call 10; refine (awake_calls _ (tab_below HT.out X1.out.bel)).mono ?_; rintro e w2 ⟨rfl, u⟩; have X2 := Lib.hid (X1.out.step u); clear u)
    clear X1
    go_upto_region 4 with (first
      | (refine wpList_load_mid rfl 26 (.tmp 5) rfl w.heap.size 0 rfl XC _ X2.out.all Tryd.underlying26 rfl IX.out ?_)
      | (go_at_call 11; refine (HN.out _).mono ?_; rintro e w3 ⟨rfl, u2⟩; have X3 := Lib.hid (X2.out.step u2); clear u2)
      | (refine wpList_store_mid rfl 26 (.tmp 5) (.tmp 25) rfl w.heap.size 0 YC.toArray rfl rfl (X3.out.there ?s1) ?s2 ?s3 ?_))
    case s1 => have h1 := LX.out; have h2 := LN.out; simp; omega
    case s2 => simpa using IN.out
    case s3 => first | exact ON.out | exact all_oneCell_toArray ON.out
    have X4 := Lib.hid (X3.out.setAll YC (by rw [LX.out, LN.out]))
    generalize World.setCells _ _ _ _ = w4 at *
    clear HN X2 X3
    have X7 := Lib.hid (((X4.out.set 23 (.int .u8 0)).set 16 (.int .u64 0)).set 17 (.int .u64 0))
    rw [RC.out] at X7
    have c16 := X4.out.cell G16.out
    have c17 := X4.out.cell G17.out
    have c23 := X4.out.cell G23.out
    have f16 := X4.out.fro 16
    have f17 := X4.out.fro 17
    have f23 := X4.out.fro 23
    clear X4
    go_upto_region 7 with (fail)
    generalize World.setCell _ _ _ = w7 at *
    clear c16 c17 c23 f16 f17 f23
    obtain ⟨ii, hii, hz5, hs5, hb5⟩ := byte_info
    have HI := Lib.hid hii
    have HZ := Lib.hid hz5
    have HSz := Lib.hid hs5
    have HBy := Lib.hid hb5
    clear hii hz5 hs5 hb5
    have B8 := Lib.hid (bs_four X7.out.bel hn)
    have X8 := Lib.hid (X7.out.alloc (.cells #[.int .u8 ((n : Int) % 256), .int .u8 ((n : Int) / 256 % 256), .int .u8 ((n : Int) / 65536 % 256), .int .u8 ((n : Int) / 16777216)] 5))
    have R8 := Lib.hid (show _ from (by have h := B8.out.r; rw [leB_length] at h; exact h))
    have RQ8 := Lib.hid (RQ.out.below (X8.out.bel))
    have LT7 := Lib.hid X7.out.lt
    go_upto_region 8 with (at_builtin; refine wpList_append_row enc8_one (by rfl) _ _ _ (by rfl) w7.heap.size 5 ii _ 1 Tryd.underlying28 HI.out HZ.out HSz.out HBy.out (by rfl) (.slice (some ⟨w7.heap.size, 0, none⟩) 4 4) 4 _ (by rfl) R8.out (.slice aq ql.length cq) ql (by rfl) RQ8.out (by unfold maxLen; omega) (by omega) B8.out.m ?_; intro v9 w9 h9 g9 o9)
    have B9 := Lib.hid (B8.out.grow (s := ql) (by rw [leB_length]; exact h9) g9)
    have X9 := Lib.hid (X8.out.keep (keep_grown g9) (fun e => by have h : w7.heap.size = w.heap.size := Option.some.inj e; have := LT7.out; omega) (fun i hi e => by have h : w7.heap.size = i := Option.some.inj e; have := LT7.out; omega))
    obtain ⟨g, c9, sp, hv9, hg9, hc9, hm9, hb9⟩ := sl_form h9 (by omega)
    rw [hv9]
    rw [hv9] at B9
    clear h9 g9 o9 hb9 hg9 hv9 X8 B8 R8 RQ8 LT7 X7
    have P8 := Lib.hid (show ∀ y ∈ leB 4 n ++ ql, y < 256 from fun y hy => by rcases List.mem_append.1 hy with h | h; exact leB_lt 4 n y h; exact Q8.out y h)
    have LP := Lib.hid (show (leB 4 n ++ ql).length = 4 + ql.length by rw [List.length_append, leB_length])
    have hor := or_one hh
    generalize here ||| 1 = h1 at *
    by_cases h252 : ql.length ≤ 252
    · have hl4 : ¬ (256 : Int) < 4 + (ql.length : Int) := by omega
      have RP := Lib.hid B9.out.row
      have PL := Lib.hid (show (leB 4 n ++ ql).length ≤ 256 by rw [LP.out]; omega)
      go_upto_region 10 with (fail)
      have RQ9 := Lib.hid (RQ.out.below X9.out.bel)
      have SM := Lib.hid (mksome_calls h1 wr (.slice (some ⟨g, 0, none⟩) (4 + ql.length) c9) (.slice aq ql.length cq) (leB 4 n ++ ql) ql w9 RP.out RQ9.out P8.out Q8.out PL.out hlen)
      clear B9
      go_upto_region 11 with (go_at_call 14; refine SM.out.mono ?_; rintro e w10 ⟨ma, mb, pa, pb, rfl, s10⟩; have S10 := Lib.hid s10; clear s10)
      have X10 := Lib.hid (X9.out.step S10.out.bel)
      have T10 := Lib.hid (tab_below HT.out X10.out.bel)
      have H9 := Lib.hid (show w.heap.size < w9.heap.size from X9.out.lt)
      have BC := Lib.hid (both_calls z OKR.out OK8.out S10.out 7 1 (by decide) T10.out (by have := H9.out; omega))
      have AO := Lib.hid (stepL_ok OKR.out OK8.out S10.out.a.x 7 1 (by decide))
      unfold BothP at BC
      generalize stepL z _ 7 1 = o at *
      clear SM X9 T10
      have hz := zero_val
      have HZL := Lib.hid zero_ok.len
      have hzs : zeroSe.cells.toArray.size = 26 := by simpa using HZL.out
      have hzn : ¬ zeroSe.cells.toArray = #[] := fun h => by rw [h] at hzs; simp at hzs
      have YL := Lib.hid AO.out.1.len
      have I1 := Lib.hid (info_se AO.out.1)
      have YO := Lib.hid (Se.one o.x)
      go_upto_region 12 with (first
        | (refine wpList_load_mid rfl 26 (.tmp 5) rfl w.heap.size 0 rfl z.cells _ X10.out.all Tryd.underlying26 rfl IR.out ?_)
        | (go_at_call 15; refine BC.out.mono ?_; rintro e w11 ⟨rfl, s11, k11⟩; have B11 := Lib.hid (Keep.belowB X10.out.bel k11 X10.out.bel.size (fun i hi q => by have := S10.out.base q; have := H9.out; omega)); clear s11 k11; have N12 := Lib.hid (Own.newL B11.out zeroSe.cells (26 : Nat)))
        | (refine wpList_store_mid rfl 26 (.tmp 14) (.tmp 62) rfl w11.heap.size 0 o.x.cells.toArray rfl rfl (N12.out.there ?s1) ?s2 ?s3 ?_))
      case s1 => have h1 := HZL.out; have h2 := YL.out; simp; omega
      case s2 => simpa using I1.out
      case s3 => first | exact YO.out | exact all_oneCell_toArray YO.out
      have N13 := Lib.hid (N12.out.setAll o.x.cells (by rw [YL.out, HZL.out]))
      generalize World.setCells _ _ _ _ = w12 at *
      go_wp2
      go_ret
      exact ⟨rfl, N13.out.bel⟩
    · have hl4 : (256 : Int) < 4 + (ql.length : Int) := by omega
      have hc9i : (256 : Int) ≤ (c9 : Int) := by omega
      have hm9i : (c9 : Int) ≤ 9223372036854775807 := by unfold maxLen at hm9; omega
      have RP0 := Lib.hid B9.out.row
      rw [← LP.out] at RP0
      have RP := Lib.hid (row_take (n := 256) RP0.out (by rw [LP.out]; omega))
      have P8' := Lib.hid (show ∀ y ∈ (leB 4 n ++ ql).take 256, y < 256 from fun y hy => P8.out y (List.mem_of_mem_take hy))
      have PL := Lib.hid (show ((leB 4 n ++ ql).take 256).length ≤ 256 by rw [List.length_take]; omega)
      clear P8 RP0
      have P8 := P8'
      go_upto_region 10 with (fail)
      have RQ9 := Lib.hid (RQ.out.below X9.out.bel)
      have SM := Lib.hid (mksome_calls h1 wr (.slice (some ⟨g, 0, none⟩) 256 c9) (.slice aq ql.length cq) ((leB 4 n ++ ql).take 256) ql w9 RP.out RQ9.out P8.out Q8.out PL.out hlen)
      clear B9
      go_upto_region 11 with (go_at_call 14; refine SM.out.mono ?_; rintro e w10 ⟨ma, mb, pa, pb, rfl, s10⟩; have S10 := Lib.hid s10; clear s10)
      have X10 := Lib.hid (X9.out.step S10.out.bel)
      have T10 := Lib.hid (tab_below HT.out X10.out.bel)
      have H9 := Lib.hid (show w.heap.size < w9.heap.size from X9.out.lt)
      have BC := Lib.hid (both_calls z OKR.out OK8.out S10.out 7 1 (by decide) T10.out (by have := H9.out; omega))
      have AO := Lib.hid (stepL_ok OKR.out OK8.out S10.out.a.x 7 1 (by decide))
      unfold BothP at BC
      generalize stepL z _ 7 1 = o at *
      clear SM X9 T10
      have hz := zero_val
      have HZL := Lib.hid zero_ok.len
      have hzs : zeroSe.cells.toArray.size = 26 := by simpa using HZL.out
      have hzn : ¬ zeroSe.cells.toArray = #[] := fun h => by rw [h] at hzs; simp at hzs
      have YL := Lib.hid AO.out.1.len
      have I1 := Lib.hid (info_se AO.out.1)
      have YO := Lib.hid (Se.one o.x)
      go_upto_region 12 with (first
        | (refine wpList_load_mid rfl 26 (.tmp 5) rfl w.heap.size 0 rfl z.cells _ X10.out.all Tryd.underlying26 rfl IR.out ?_)
        | (go_at_call 15; refine BC.out.mono ?_; rintro e w11 ⟨rfl, s11, k11⟩; have B11 := Lib.hid (Keep.belowB X10.out.bel k11 X10.out.bel.size (fun i hi q => by have := S10.out.base q; have := H9.out; omega)); clear s11 k11; have N12 := Lib.hid (Own.newL B11.out zeroSe.cells (26 : Nat)))
        | (refine wpList_store_mid rfl 26 (.tmp 14) (.tmp 62) rfl w11.heap.size 0 o.x.cells.toArray rfl rfl (N12.out.there ?s1) ?s2 ?s3 ?_))
      case s1 => have h1 := HZL.out; have h2 := YL.out; simp; omega
      case s2 => simpa using I1.out
      case s3 => first | exact YO.out | exact all_oneCell_toArray YO.out
      have N13 := Lib.hid (N12.out.setAll o.x.cells (by rw [YL.out, HZL.out]))
      generalize World.setCells _ _ _ _ = w12 at *
      go_wp2
      go_ret
      exact ⟨rfl, N13.out.bel⟩
  · have hl2 : (256 : Int) < ql.length := by omega
    clear RC OK8 OKR IR G16 G17 G23
    go_enter Tryd.func4, Tryd.ntmps4
    go_upto_region 1 with (fail)
    generalize w.alloc (.cells XC.toArray 26) = w1 at *
    go_upto_region 2 with (go_at_call 10; refine (awake_calls _ (tab_below HT.out X1.out.bel)).mono ?_; rintro e w2 ⟨rfl, u⟩; have X2 := Lib.hid (X1.out.step u); clear u)
    go_wp2_with (go_at_call 10; refine (awake_calls _ (tab_below HT.out X2.out.bel)).mono ?_; rintro e w3 ⟨rfl, u⟩; have X3 := Lib.hid (X2.out.step u); clear u)
    go_ret
    exact ⟨rfl, X3.out.bel⟩
end Go.Proofs.YtjlodddlbgpcdaaDoor.Walks
