/- Walks through the functions of the statement, and the statement over them: each contract says what the call answers and that nothing else changes. -/
import Derived.Test.YtjlodddlbgpcdaaDoorProg
import Derived.Test.YtjlodddlbgpcdaaDoorBits
import Derived.Test.YtjlodddlbgpcdaaDoorHeap
import Derived.Test.YtjlodddlbgpcdaaDoorAid
import Derived.Test.YtjlodddlbgpcdaaDoorArr
import Derived.Test.YtjlodddlbgpcdaaDoorEql
import Derived.Test.YtjlodddlbgpcdaaDoorWalkBase
import Derived.Test.YtjlodddlbgpcdaaDoorWalkCode
import Derived.Test.YtjlodddlbgpcdaaDoorWalkSeat
import Derived.Test.YtjlodddlbgpcdaaDoorWalkRef
import Derived.Test.YtjlodddlbgpcdaaDoorWalkRefR
import Derived.Test.YtjlodddlbgpcdaaDoorWalkBus
import Derived.Test.YtjlodddlbgpcdaaDoorWalkBus2
import Derived.Test.YtjlodddlbgpcdaaDoorWalkRefP
import Derived.Test.YtjlodddlbgpcdaaDoorWalkRefG
import Derived.Test.YtjlodddlbgpcdaaDoorWalkRefL
import Derived.Test.YtjlodddlbgpcdaaDoorWalkDo
import Derived.Test.YtjlodddlbgpcdaaDoorWalkDo2
import Derived.Test.YtjlodddlbgpcdaaDoorWalkStep
import Derived.Test.YtjlodddlbgpcdaaDoorWalkSome
import Derived.Test.YtjlodddlbgpcdaaDoorWalkAwake
import Derived.Test.YtjlodddlbgpcdaaDoorWalkNil
import Derived.Test.YtjlodddlbgpcdaaDoorWalkPl
import Derived.Test.YtjlodddlbgpcdaaDoorWalkRs0
import Derived.Test.YtjlodddlbgpcdaaDoorWalkRs1
import Derived.Test.YtjlodddlbgpcdaaDoorWalkRs2
import Derived.Test.YtjlodddlbgpcdaaDoorWalkRs3
import Derived.Test.YtjlodddlbgpcdaaDoorWalkRs4
import Derived.Test.YtjlodddlbgpcdaaDoorWalkRsA
import Derived.Test.YtjlodddlbgpcdaaDoorWalkBoth
import Derived.Test.YtjlodddlbgpcdaaDoorWalkRaw
import Derived.Test.YtjlodddlbgpcdaaDoorWalkRuns
import Derived.Lib.Hide
import Derived.WalkKit
import Derived.WalkSpells
import Derived.WalkLawsBesides
import Derived.Deep.QuietTactic
import Derived.BigQuiet
import Derived.Deep.RegionHeld3
import Derived.Deep.DeepCutAuto
import Derived.Deep.CutBlock
import Derived.Lib.SlBytesConst
import Derived.StillTailTactics
import Derived.RegionTactic
import Derived.Deep.RegionLaw
import Derived.Laws.BytesString
import Derived.Laws.MakeOwn
import Derived.Deep.AppendLies
import Derived.Laws.CopyOwn
import Derived.Maps.AppendAt
import Derived.Deep.Upon
import Derived.Deep.AppendSrc
import Derived.Shelf.Abstract
import Derived.Shelf.Spec.TrailingZeros
namespace Go.Proofs.YtjlodddlbgpcdaaDoor.Walks
set_option linter.unusedVariables false
set_option linter.unusedSimpArgs false
open Go.RowKit Go.Proofs.YtjlodddlbgpcdaaDoor.Bits Go.Proofs.YtjlodddlbgpcdaaDoor.Heap Go.Proofs.YtjlodddlbgpcdaaDoor.Aid Go.Proofs.YtjlodddlbgpcdaaDoor.Arr Go.Proofs.YtjlodddlbgpcdaaDoor.Eql

theorem blk_splice {w : World} {g : Nat} {l : List Nat} {sp : List Value} {t : TypeId} (h : Blk w g (l.map enc8 ++ sp) t) (o : Nat) (s : List Nat) (ho : o + s.length ≤ l.length) : Blk (w.setCells g o (s.map enc8)) g ((l.take o ++ s ++ l.drop (o + s.length)).map enc8 ++ sp) t := by
  rcases Blk.setCells h o (s.map enc8) with h1 | h1
  · have e : (l.map enc8 ++ sp).take o ++ s.map enc8 ++ (l.map enc8 ++ sp).drop (o + (s.map enc8).length) = (l.take o ++ s ++ l.drop (o + s.length)).map enc8 ++ sp := by
      rw [List.take_append_of_le_length (by rw [List.length_map]; omega), List.length_map, List.drop_append_of_le_length (by rw [List.length_map]; omega)]
      simp [List.map_append, List.map_take, List.map_drop]
    rw [e] at h1
    exact h1
  · simp at h1; omega
theorem row_blk {w : World} {g cap : Nat} {l : List Nat} {sp : List Value} {t : TypeId} (h : Blk w g (l.map enc8 ++ sp) t) (hc : l.length ≤ cap) : Row w enc8 (.slice (some ⟨g, 0, none⟩) l.length cap) l :=
  .inr ⟨⟨g, 0, none⟩, cap, rfl, hc, fun i x hi => news_blk h i _ (by rw [List.getElem?_map, hi]; rfl)⟩
def slLen : Value → Nat
  | .slice _ n _ => n
  | _ => 0
theorem Own.splice {w w1 : World} {g : Nat} {l : List Nat} {sp : List Value} {t : TypeId} (h : Own w g (l.map enc8 ++ sp) t w1) (o : Nat) (s : List Nat) (ho : o + s.length ≤ l.length) : Own w g ((l.take o ++ s ++ l.drop (o + s.length)).map enc8 ++ sp) t (w1.setCells g o (s.map enc8)) :=
  ⟨below_setCells h.bel h.n o _, h.n, blk_splice h.k o s ho⟩
theorem pickIf_lt (k : Bool) (a : Nat) : pickIf k a < 16 := by unfold pickIf; split <;> omega
theorem wordF_lt2 {c a b d : Nat} (n : Int) (hc : c < 23) (ha : a < 16) (hb : b < 16) (hd : d < 16) : wordF c a b d n < 2 ^ 32 := by
  have u1 : uN n < 65536 := by unfold uN; omega
  have k1 : (if fC c then d else uN n) < 65536 := by split <;> omega
  unfold wordF wordN
  generalize (if fC (c : Int) then d else uN n) = x at *
  omega
/-- A seat that is ready, at a place of page 0. -/
def plainS (y : Se) (pc : Nat) : Se := (({ y with st := 0 } : Se).reg 16 pc).reg 17 0
theorem plainS_ok {y : Se} (h : y.Ok) (pc : Nat) (hp : pc < 2 ^ 64) : (plainS y pc).Ok :=
  (Se.Ok.reg (x := { y with st := 0 }) ⟨h.l, h.w, by show 0 < 256; omega, h.p, h.m⟩ (a := 16) hp).reg (a := 17) (v := 0) (by decide)
theorem plainS_cells {y : Se} (h : y.Ok) (pc : Nat) (hp : pc < 2 ^ 64) : ((y.cells.set 23 (.int .u8 0)).set 16 (.int .u64 (pc : Int))).set 17 (.int .u64 0) = (plainS y pc).cells := by
  have h1 : ({ y with st := 0 } : Se).Ok := ⟨h.l, h.w, by show 0 < 256; omega, h.p, h.m⟩
  have e1 : y.cells.set 23 (.int .u8 0) = ({ y with st := 0 } : Se).cells := h.s23 0
  have e2 := h1.sr (i := 16) (by decide) pc
  have e3 := (h1.reg (a := 16) (v := pc) hp).sr (i := 17) (by decide) 0
  rw [e1, e2]
  exact e3
set_option maxRecDepth 8000 in
set_option maxHeartbeats 8000000 in
theorem cpuOne_walk (c0 : List Value) (a1 a2 a3 a4 a5 a6 a7 : Int) (v8 : Value) (a9 a10 a11 : Int) (w : World) (f : Fits w seSh c0) (wa1 : (Lit.int .u8 a1).wf = true) (wa2 : (Lit.int .u8 a2).wf = true) (wa3 : (Lit.int .u8 a3).wf = true) (wa4 : (Lit.int .u8 a4).wf = true) (wa5 : (Lit.int .i16 a5).wf = true)
    (wa6 : (Lit.int .u32 a6).wf = true) (wa7 : (Lit.int .u32 a7).wf = true) (f8 : Fits w (.slice (.int .u8)) [v8]) (wa9 : (Lit.int .u8 a9).wf = true) (wa10 : (Lit.int .u64 a10).wf = true) (wa11 : (Lit.int .u8 a11).wf = true) (hT : TabAt 0 Lib.deBruijn64tab w) :
    Calls Tryd.prog 3 #[.agg c0.toArray, .int .u8 a1, .int .u8 a2, .int .u8 a3, .int .u8 a4, .int .i16 a5, .int .u32 a6, .int .u32 a7, v8, .int .u8 a9, .int .u64 a10, .int .u8 a11] w fun e w' => e = .returned (.bool true) ∧ Below w.heap.size w w' := by
  obtain ⟨x, rfl, h⟩ := seat_of_fits f
  obtain ⟨ql, rq, hq8, hqm⟩ := bytes_row f8
  obtain ⟨cd, rfl, hcd⟩ := Bits.wf_u8 wa1
  obtain ⟨na, rfl, hna⟩ := Bits.wf_u8 wa2
  obtain ⟨nb, rfl, hnb⟩ := Bits.wf_u8 wa3
  obtain ⟨nd, rfl, hnd⟩ := Bits.wf_u8 wa4
  obtain ⟨here, rfl, hh⟩ := Bits.wf_u32 wa6
  obtain ⟨wrt, rfl, hw⟩ := Bits.wf_u32 wa7
  obtain ⟨how, rfl, hhow⟩ := Bits.wf_u8 wa9
  obtain ⟨time, rfl, htime⟩ := Bits.wf_u64 wa10
  obtain ⟨me, rfl, hme⟩ := Bits.wf_u8 wa11
  clear f f8 wa1 wa2 wa3 wa4 wa6 wa7 wa9 wa10 wa11 wa5
  obtain ⟨aq, cq, rfl⟩ := rq.form
  have RQ := Lib.hid rq
  have Q8 := Lib.hid hq8
  have HT := Lib.hid hT
  have HHOW := Lib.hid hhow
  have HTIME := Lib.hid htime
  have HME := Lib.hid hme
  have LX := Lib.hid h.len
  have IX := Lib.hid (info_se h)
  have okn := Lib.hid (near_ok h)
  have ok8 := Lib.hid (near_ok8 x)
  have HN := Lib.hid (near_calls x h)
  have IN := Lib.hid (info_se okn.out)
  have LN := Lib.hid okn.out.len
  have ON := Lib.hid (Se.one (nearS x))
  generalize nearS x = y at *
  generalize hYC : y.cells = YC at *
  have HYC := Lib.hid hYC
  generalize x.cells = XC at *
  -- the instruction
  have hcc : (cd : Int) % 23 = ((cd % 23 : Nat) : Int) := by omega
  have CC := Lib.hid (show cd % 23 < 23 by omega)
  generalize cd % 23 = cc at *
  have FC := Lib.hid (fun W => refFields_calls cc CC.out W)
  obtain ⟨p0, p15, pA, pB, pC, _⟩ := refF_props cc CC.out
  have hA := mulBit na (refF cc % 2) (fA cc) pA (by omega) (by omega)
  have hB := mulBit nb (refF cc / 2 % 2) (fB cc) pB (by omega) (by omega)
  have hD := mulBit nd (refF cc / 4 % 2) (fC cc) pC (by omega) (by omega)
  have LA := Lib.hid (pickIf_lt (fA cc) na)
  have LB := Lib.hid (pickIf_lt (fB cc) nb)
  have LD := Lib.hid (pickIf_lt (fC cc) nd)
  clear pA pB pC
  generalize pickIf (fA cc) na = pa at *
  generalize pickIf (fB cc) nb = pb at *
  generalize pickIf (fC cc) nd = pd at *
  generalize refF cc = rf at *
  have RW := Lib.hid (fun n W => refWord_calls cc pa pb pd n CC.out LA.out LB.out LD.out W)
  have WL := Lib.hid (fun n => wordF_lt2 (c := cc) (a := pa) (b := pb) (d := pd) n CC.out LA.out LB.out LD.out)
  generalize wordF cc pa pb pd = wf at *
  have hcci : (cc : Int) ≤ 22 := by have := CC.out; omega
  have hcci0 : 0 ≤ (cc : Int) := by omega
  clear hYC h rq hq8 hT hcd hna hnb hnd hhow htime hme
  have hlq : (ql.length : Int) ≤ 9223372036854775807 := by unfold maxLen at hqm; omega
  have hlq0 : 0 ≤ (ql.length : Int) := by omega
  have X1 : Hid (Own w w.heap.size XC 26 (w.alloc (.cells XC.toArray 26))) := Own.newL (Below.refl _ _) _ _
  by_cases hlen : ql.length ≤ 256
  · have hl2 : ¬ (256 : Int) < ql.length := by omega
    go_enter Tryd.func3, Tryd.ntmps3
    go_upto_region 1 with (fail)
    generalize w.alloc (.cells XC.toArray 26) = w1 at *
    go_upto_region 3 with (go_at_call 10; refine (awake_calls _ (tab_below HT.out X1.out.bel)).mono ?_; rintro e w2 ⟨rfl, u⟩; have X2 := Lib.hid (X1.out.step u); clear u)
    clear X1
    go_upto_region 4 with (first
      | (refine wpList_load_mid rfl 26 (.tmp 12) rfl w.heap.size 0 rfl XC _ X2.out.all Tryd.underlying26 rfl IX.out ?_)
      | (go_at_call 11; refine (HN.out _).mono ?_; rintro e w3 ⟨rfl, u2⟩; have X3 := Lib.hid (X2.out.step u2); clear u2)
      | (refine wpList_store_mid rfl 26 (.tmp 12) (.tmp 41) rfl w.heap.size 0 YC.toArray rfl rfl (X3.out.there ?s1) ?s2 ?s3 ?_))
    case s1 => have h1 := LX.out; have h2 := LN.out; simp; omega
    case s2 => simpa using IN.out
    case s3 => first | exact ON.out | exact all_oneCell_toArray ON.out
    have X4 := Lib.hid (X3.out.setAll YC (by rw [LX.out, LN.out]))
    generalize World.setCells _ _ _ _ = w4 at *
    clear HN X2 X3
    go_upto_region 6 with (go_at_call 12; refine (FC.out _).mono ?_; rintro e w5 ⟨rfl, u2⟩; have X5 := Lib.hid (X4.out.step u2); clear u2)
    clear FC X4
    go_upto_if 68 with (fail)
    rw [hA, hB, hD]
    clear hA hB hD
    go_cut [5] (fun s wx => (∃ m : Int, s = .int .i16 m) ∧ wx = w5)
    case first =>
      go_wp2
      all_goals
        go_meet
        exact ⟨⟨_, rfl⟩, rfl⟩
    case rest =>
      obtain ⟨⟨m, hm⟩, hwc⟩ := hcut
      rw [hm, hwc]
      clear hm hwc
      go_upto_region 11 with (fail)
      go_cut [74] (fun s wx => (∃ b : Bool, s = .bool b) ∧ wx = w5)
      case first =>
        by_cases e18 : cc = 18
        · have k1 : ((cc : Int) == 18) = true := by rw [e18]; rfl
          go_wp2
          all_goals
            go_meet
            exact ⟨⟨_, rfl⟩, rfl⟩
        · have k1 : ((cc : Int) == 18) = false := by simp; omega
          go_wp2
          all_goals
            go_meet
            exact ⟨⟨_, rfl⟩, rfl⟩
      case rest =>
        obtain ⟨⟨b74, hm⟩, hwc⟩ := hcut
        rw [hm, hwc]
        clear hm hwc
        go_upto_if 74 with (fail)
        go_cut [5] (fun s wx => (∃ m : Int, s = .int .i16 m) ∧ wx = w5)
        case first =>
          cases b74 with
          | true =>
            go_wp2
            all_goals
              go_meet
              exact ⟨⟨_, rfl⟩, rfl⟩
          | false =>
            go_wp2
            all_goals
              go_meet
              exact ⟨⟨_, rfl⟩, rfl⟩
        case rest =>
          obtain ⟨⟨n, hm⟩, hwc⟩ := hcut
          rw [hm, hwc]
          clear hm hwc
          have RWn := Lib.hid (RW.out n)
          have WLn := Lib.hid (WL.out n)
          generalize wf n = wd at *
          clear RW WL
          go_upto_region 14 with (go_at_call 13; refine (RWn.out _).mono ?_; rintro e w6 ⟨rfl, u2⟩; have X6 := Lib.hid (X5.out.step u2); clear u2)
          clear RWn X5
          obtain ⟨ii, hii, hz5, hs5, hb5⟩ := byte_info
          have HI := Lib.hid hii
          have HZ := Lib.hid hz5
          have HSz := Lib.hid hs5
          have HBy := Lib.hid hb5
          clear hii hz5 hs5 hb5
          have RQ6 := Lib.hid (RQ.out.below X6.out.bel)
          have LT6 := Lib.hid X6.out.lt
          have B6 := Lib.hid (Bs.nil X6.out.bel)
          go_upto_region 15 with (at_builtin; refine wpList_append_row enc8_one (by rfl) _ _ _ (by rfl) w6.heap.size 5 ii _ 1 Tryd.underlying28 HI.out HZ.out HSz.out HBy.out (by rfl) (.slice none 0 0) 0 [] (by rfl) (World.ownsRow_nil _ _ _ _) (.slice aq ql.length cq) ql (by rfl) RQ6.out (by unfold maxLen; omega) (by omega) (Nat.le_refl _) ?_; intro v7 w7 h7 g7 o7)
          have B7 := Lib.hid (B6.out.grow (s := ql) h7 g7)
          have X7 := Lib.hid (X6.out.keep (keep_grown g7) (fun e => by cases e) (fun i hi e => by cases e))
          obtain ⟨a7, c7, hv7⟩ := own_form B7.out.r
          rw [hv7]
          rw [hv7] at B7
          clear h7 g7 o7 hv7 B6 RQ6 X6
          go_loopw [27] (fun pv wr => ∃ (l : List Nat) (a : Option Addr) (cap : Nat), l.length ≤ 256 ∧ pv = .slice a l.length cap ∧ (∀ y ∈ l, y < 256) ∧ Bs w w6.heap.size (.slice a l.length cap) l wr ∧ Own w w.heap.size YC 26 wr) (fun pv _ => 256 - slLen pv)
          case atStart => exact ⟨[] ++ ql, a7, c7, by simpa using hlen, rfl, fun y hy => Q8.out y (by simpa using hy), B7.out, X7.out⟩
          case round =>
            obtain ⟨l, al, cl, hl, rfl, h8, B, X⟩ := hrel
            have H8 := Lib.hid h8
            have B8 := Lib.hid B
            have X8 := Lib.hid X
            clear h8 B X B7 X7
            by_cases hlt : l.length < 256
            · have hli : (l.length : Int) < 256 := by omega
              have RO := Lib.hid (Row.of_blk (l := [0]) (enc := enc8) (Blk.new wr #[.int .u8 0] 5))
              have B9 := Lib.hid (B8.out.step ((Below.refl wr.heap.size wr).alloc (Nat.le_refl _) (.cells #[.int .u8 0] 5)))
              have X9 := Lib.hid (X8.out.alloc (.cells #[.int .u8 0] 5))
              go_wp2_with (at_builtin; refine wpList_append_row enc8_one (by rfl) _ _ _ (by rfl) w6.heap.size 5 ii _ 1 Tryd.underlying28 HI.out HZ.out HSz.out HBy.out (by rfl) (.slice al l.length cl) l.length _ (by rfl) B9.out.r (.slice (some ⟨wr.heap.size, 0, none⟩) 1 1) [0] (by rfl) RO.out (by unfold maxLen; simp; omega) (by simp; omega) B9.out.m ?_; intro v10 w10 h10 g10 o10)
              have B10 := Lib.hid (B9.out.grow (s := [0]) h10 g10)
              have X10 := Lib.hid (X9.out.keep (keep_grown g10) (fun e => by have := own_ge B9.out.r _ e; have := LT6.out; omega) (fun i hi e => by have := own_ge B9.out.r _ e; have := LT6.out; omega))
              obtain ⟨a10, c10, hv10⟩ := own_form B10.out.r
              rw [hv10]
              rw [hv10] at B10
              clear h10 g10 o10 hv10
              go_wp2
              go_roundw
              case rel =>
                (repeat apply Exists.intro)
                refine ⟨⟨l ++ [0], a10, c10, ?h1, ?h2, ?h3, B10.out, X10.out⟩, rfl⟩
                case h1 => simp; omega
                case h2 => simp
                case h3 => exact fun y hy => by rcases List.mem_append.1 hy with h | h; exact H8.out y h; simp at h; omega
              case measure => simp [slLen]; omega
            · have e256 : l.length = 256 := by omega
              have hli : ¬ (l.length : Int) < 256 := by omega
              obtain ⟨g, cg, sp, hv, hg, hcg, hmg, hbg⟩ := sl_form B8.out.r (by omega)
              have P9 := Lib.hid (show Own w g (l.map enc8 ++ sp) 5 wr from ⟨B8.out.bel, Nat.le_trans B8.out.n hg, hbg⟩)
              have NG := Lib.hid (show w.heap.size < g from Nat.lt_of_lt_of_le LT6.out hg)
              injection hv with hv1 hv2 hv3
              subst hv1
              subst hv3
              clear hv2 B8 hbg hg
              rw [e256] at hcg ⊢
              have hli : ¬ (256 : Int) < 256 := by omega
              have ZB := Lib.hid (plainS_ok okn.out)
              have hwd := WLn.out
              go_upto_if 95 with (fail)
              go_cut [6] (fun s wx => ∃ (hn : Nat) (z : Se) (l' : List Nat), s = .int .u32 (hn : Int) ∧ z.Ok ∧ z.Ok8 ∧ l'.length = 256 ∧ (∀ y ∈ l', y < 256) ∧ Own w w.heap.size z.cells 26 wx ∧ Own w g (l'.map enc8 ++ sp) 5 wx)
              case first =>
                by_cases q0 : how % 4 = 0
                · have hq : ¬ (0 : Int) < (how : Int) % 4 := by omega
                  go_wp2
                  go_meet
                  case rel => exact ⟨here, y, l, rfl, okn.out, ok8.out, e256, H8.out, HYC.out ▸ X8.out, P9.out⟩
                · have hq : (0 : Int) < (how : Int) % 4 := by omega
                  have hhi : (how : Int) ≤ 255 := by have := HHOW.out; omega
                  have hhi0 : 0 ≤ (how : Int) := by omega
                  have hpc : (how : Int) / 4 % 60 * 4 = ((how / 4 % 60 * 4 : Nat) : Int) := by omega
                  have LPC := Lib.hid (show how / 4 % 60 * 4 ≤ 236 by omega)
                  generalize how / 4 % 60 * 4 = pc at *
                  have hpc1 : (pc : Int) ≤ 236 := by have := LPC.out; omega
                  have hpc0 : 0 ≤ (pc : Int) := by omega
                  have OKZ := Lib.hid (ZB.out pc (by have := LPC.out; omega))
                  have PCC := Lib.hid (plainS_cells okn.out pc (by have := LPC.out; omega))
                  rw [HYC.out] at PCC
                  have OK8 := Lib.hid (show (plainS y pc).Ok8 from ⟨ok8.out.p, ok8.out.m⟩)
                  have G16 := okn.out.gr (i := 16) (by decide)
                  have G17 := okn.out.gr (i := 17) (by decide)
                  have G23 := okn.out.g23
                  rw [HYC.out] at G16 G17 G23
                  have c16 := X8.out.cell G16
                  have c17 := X8.out.cell G17
                  have c23 := X8.out.cell G23
                  have f16 := X8.out.fro 16
                  have f17 := X8.out.fro 17
                  have f23 := X8.out.fro 23
                  have XR := Lib.hid (((X8.out.set 23 (.int .u8 0)).set 16 (.int .u64 (pc : Int))).set 17 (.int .u64 0))
                  have C16 := Lib.hid (XR.out.cell (i := 16) (v := .int .u64 (pc : Int)) (by rw [List.getElem?_set_ne (by decide), List.getElem?_set_self (by rw [List.length_set, LN.out]; decide)]))
                  rw [PCC.out] at XR
                  have PR := Lib.hid (((P9.out.setO (Nat.ne_of_lt NG.out) (Nat.le_refl _) 23 (.int .u8 0)).setO (Nat.ne_of_lt NG.out) (Nat.le_refl _) 16 (.int .u64 (pc : Int))).setO (Nat.ne_of_lt NG.out) (Nat.le_refl _) 17 (.int .u64 0))
                  clear G16 G17 G23 X8 P9
                  generalize plainS y pc = z at *
                  have hor := or_one hh
                  generalize here ||| 1 = h1 at *
                  go_upto_region 22 with (fail)
                  generalize World.setCell _ _ _ = w10 at *
                  clear c16 c17 c23 f16 f17 f23 hor
                  have c16 := C16.out
                  clear C16
                  have B10 := Lib.hid (bs_four XR.out.bel hwd)
                  have PA := Lib.hid (PR.out.alloc (.cells #[.int .u8 ((wd : Int) % 256), .int .u8 ((wd : Int) / 256 % 256), .int .u8 ((wd : Int) / 65536 % 256), .int .u8 ((wd : Int) / 16777216)] 5))
                  have XA := Lib.hid (XR.out.alloc (.cells #[.int .u8 ((wd : Int) % 256), .int .u8 ((wd : Int) / 256 % 256), .int .u8 ((wd : Int) / 65536 % 256), .int .u8 ((wd : Int) / 16777216)] 5))
                  have RB := Lib.hid B10.out.row
                  have HLE := Lib.hid (show (leB 4 wd).length ≤ 256 - pc by rw [leB_length]; have := LPC.out; omega)
                  have HCS := Lib.hid (show ∀ j, j < (leB 4 wd).length → ((w10.alloc (.cells #[.int .u8 ((wd : Int) % 256), .int .u8 ((wd : Int) / 256 % 256), .int .u8 ((wd : Int) / 65536 % 256), .int .u8 ((wd : Int) / 16777216)] 5)).cell? ⟨g, pc + j, none⟩).isSome = true from fun j hj => by
                    have h := (PA.out.there (n := 256) (by rw [List.length_append, List.length_map, e256]; omega)) (pc + j) (by rw [leB_length] at hj; have := LPC.out; omega)
                    simpa using h.1)
                  clear PR XR B10
                  go_upto_region 23 with (refine wpList_copy_row (by rfl) (.tmp 109) (.tmp 121) _ _ (by rfl) 5 Tryd.underlying28 size1 g pc (256 - pc) (cl - pc) (leB 4 wd) (by rfl) (by exact RB.out) HLE.out HCS.out (fun j hj => PA.out.fro _) ?_)
                  have P11 := Lib.hid (PA.out.splice pc (leB 4 wd) (by rw [leB_length, e256]; have := LPC.out; omega))
                  have X11 := Lib.hid (XA.out.setAllO (Ne.symm (Nat.ne_of_lt NG.out)) PA.out.n pc ((leB 4 wd).map enc8))
                  have L2 := Lib.hid (show (l.take pc ++ leB 4 wd ++ l.drop (pc + (leB 4 wd).length)).length = 256 by simp [leB_length, e256]; have := LPC.out; omega)
                  have M2 := Lib.hid (show ∀ y ∈ l.take pc ++ leB 4 wd ++ l.drop (pc + (leB 4 wd).length), y < 256 from fun y hy => by
                    rcases List.mem_append.1 hy with h | h
                    · rcases List.mem_append.1 h with h | h
                      · exact H8.out y (List.mem_of_mem_take h)
                      · exact leB_lt 4 wd y h
                    · exact H8.out y (List.mem_of_mem_drop h))
                  generalize l.take pc ++ leB 4 wd ++ l.drop (pc + (leB 4 wd).length) = l2 at *
                  clear PA XA RB HLE HCS c16
                  generalize World.setCells _ _ _ _ = w11 at *
                  by_cases q1 : how % 4 = 1
                  · have hq1 : ¬ (1 : Int) < (how : Int) % 4 := by omega
                    go_wp2
                    go_meet
                    case rel => exact ⟨h1, z, l2, rfl, OKZ.out, OK8.out, L2.out, M2.out, X11.out, P11.out⟩
                  · have hq1 : (1 : Int) < (how : Int) % 4 := by omega
                    have hpb := LB.out
                    have hpb1 : (pb : Int) < 16 := by omega
                    have hpb0 : 0 ≤ (pb : Int) := by omega
                    have hpb2 : ¬ (pb : Int) < 0 := by omega
                    have c22 := X11.out.cell OKZ.out.g22
                    have cpb := X11.out.cell (OKZ.out.gr (i := pb) (by omega))
                    have VL := Lib.hid (getD_lt OKZ.out pb)
                    have f22 := X11.out.fro 22
                    have fpb := X11.out.fro pb
                    generalize z.r.getD pb 0 = vb at *
                    have hvb : (vb : Int) % 8192 = ((vb % 8192 : Nat) : Int) := by omega
                    have VM := Lib.hid (show vb % 8192 < 2 ^ 64 by omega)
                    generalize vb % 8192 = vm at *
                    have OKY := Lib.hid (show ({ z with op := false } : Se).Ok from ⟨OKZ.out.l, OKZ.out.w, OKZ.out.s, OKZ.out.p, OKZ.out.m⟩)
                    have X12 := Lib.hid ((X11.out.set 22 (.bool false)).set pb (.int .u64 (vm : Int)))
                    rw [OKZ.out.s22 false, OKY.out.sr (i := pb) (by omega) vm] at X12
                    have P12 := Lib.hid ((P11.out.setO (Nat.ne_of_lt NG.out) (Nat.le_refl _) 22 (.bool false)).setO (Nat.ne_of_lt NG.out) (Nat.le_refl _) pb (.int .u64 (vm : Int)))
                    clear X11 P11
                    go_wp2
                    go_meet
                    case rel => exact ⟨h1, ({ z with op := false } : Se).reg pb vm, l2, rfl, OKY.out.reg VM.out, ⟨OK8.out.p, OK8.out.m⟩, L2.out, M2.out, X12.out, P12.out⟩
              case rest =>
                obtain ⟨hn, z, l2, hs6, okz, okz8, e2, m2, X, P⟩ := hcut
                have OKZ := Lib.hid okz
                have OK8 := Lib.hid okz8
                have X20 := Lib.hid X
                have P20 := Lib.hid P
                have M2 := Lib.hid m2
                rw [hs6]
                clear hs6 okz okz8 m2 X P X8 P9 H8 ZB
                have RP := Lib.hid (row_blk (cap := cl) P20.out.k (by omega))
                rw [e2] at RP
                have RQ20 := Lib.hid (RQ.out.below X20.out.bel)
                have SM := Lib.hid (mksome_calls hn wrt (.slice (some ⟨g, 0, none⟩) 256 cl) (.slice aq ql.length cq) l2 ql wc RP.out RQ20.out M2.out Q8.out (by omega) hlen)
                go_upto_region 27 with (go_at_call 14; refine SM.out.mono ?_; rintro e w21 ⟨ma, mb, va, vb, rfl, s10⟩; have S21 := Lib.hid s10; clear s10)
                have X21 := Lib.hid (X20.out.step S21.out.bel)
                have T21 := Lib.hid (tab_below HT.out X21.out.bel)
                have H20 := Lib.hid (show w.heap.size < wc.heap.size from X20.out.lt)
                have BC := Lib.hid (both_calls z OKZ.out OK8.out S21.out (time : Int) (me : Int) (by have := HTIME.out; omega) T21.out (by have := H20.out; omega))
                have AO := Lib.hid (stepL_ok OKZ.out OK8.out S21.out.a.x (time : Int) (me : Int) (by have := HTIME.out; omega))
                unfold BothP at BC
                generalize stepL z _ (time : Int) (me : Int) = o at *
                clear SM X20 P20 T21 RP RQ20
                have hz := zero_val
                have HZL := Lib.hid zero_ok.len
                have hzs : zeroSe.cells.toArray.size = 26 := by simpa using HZL.out
                have hzn : ¬ zeroSe.cells.toArray = #[] := fun h => by rw [h] at hzs; simp at hzs
                have ZL := Lib.hid OKZ.out.len
                have IZ := Lib.hid (info_se OKZ.out)
                have YL := Lib.hid AO.out.1.len
                have I1 := Lib.hid (info_se AO.out.1)
                have YO := Lib.hid (Se.one o.x)
                have hme0 : 0 ≤ (me : Int) := by omega
                have hme1 : (me : Int) ≤ 255 := by have := HME.out; omega
                go_upto_region 28 with (first
                  | (refine wpList_load_mid rfl 26 (.tmp 12) rfl w.heap.size 0 rfl z.cells _ X21.out.all Tryd.underlying26 rfl IZ.out ?_)
                  | (go_at_call 15; refine BC.out.mono ?_; rintro e w22 ⟨rfl, s22, k22⟩; have B22 := Lib.hid (Keep.belowB X21.out.bel k22 X21.out.bel.size (fun i hi q => by have := S21.out.base q; have := H20.out; omega)); clear s22 k22; have N22 := Lib.hid (Own.newL B22.out zeroSe.cells (26 : Nat)))
                  | (refine wpList_store_mid rfl 26 (.tmp 30) (.tmp 151) rfl w22.heap.size 0 o.x.cells.toArray rfl rfl (N22.out.there ?s1) ?s2 ?s3 ?_))
                case s1 => have h1 := HZL.out; have h2 := YL.out; simp; omega
                case s2 => simpa using I1.out
                case s3 => first | exact YO.out | exact all_oneCell_toArray YO.out
                have N23 := Lib.hid (N22.out.setAll o.x.cells (by rw [YL.out, HZL.out]))
                generalize World.setCells _ _ _ _ = w23 at *
                go_wp2
                go_ret
                exact ⟨rfl, N23.out.bel⟩
  · have hl2 : (256 : Int) < ql.length := by omega
    go_enter Tryd.func3, Tryd.ntmps3
    go_upto_region 1 with (fail)
    generalize w.alloc (.cells XC.toArray 26) = w1 at *
    go_upto_region 2 with (go_at_call 10; refine (awake_calls _ (tab_below HT.out X1.out.bel)).mono ?_; rintro e w2 ⟨rfl, u⟩; have X2 := Lib.hid (X1.out.step u); clear u)
    go_wp2_with (go_at_call 10; refine (awake_calls _ (tab_below HT.out X2.out.bel)).mono ?_; rintro e w3 ⟨rfl, u⟩; have X3 := Lib.hid (X2.out.step u); clear u)
    go_ret
    exact ⟨rfl, X3.out.bel⟩
end Go.Proofs.YtjlodddlbgpcdaaDoor.Walks
