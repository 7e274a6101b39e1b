/- Walks through the functions of the statement, and the statement over them: each contract says what the call answers and that nothing else changes. -/
import Derived.Test.YtjlodddlbgpcdaaDoorProg
import Derived.Test.YtjlodddlbgpcdaaDoorBits
import Derived.Test.YtjlodddlbgpcdaaDoorHeap
import Derived.Test.YtjlodddlbgpcdaaDoorAid
import Derived.Test.YtjlodddlbgpcdaaDoorArr
import Derived.Test.YtjlodddlbgpcdaaDoorEql
import Derived.Test.YtjlodddlbgpcdaaDoorWalkBase
import Derived.Test.YtjlodddlbgpcdaaDoorWalkCode
import Derived.Test.YtjlodddlbgpcdaaDoorWalkSeat
import Derived.Test.YtjlodddlbgpcdaaDoorWalkRef
import Derived.Test.YtjlodddlbgpcdaaDoorWalkRefR
import Derived.Test.YtjlodddlbgpcdaaDoorWalkBus
import Derived.Test.YtjlodddlbgpcdaaDoorWalkBus2
import Derived.Test.YtjlodddlbgpcdaaDoorWalkRefP
import Derived.Test.YtjlodddlbgpcdaaDoorWalkRefG
import Derived.Test.YtjlodddlbgpcdaaDoorWalkRefL
import Derived.Test.YtjlodddlbgpcdaaDoorWalkDo
import Derived.Test.YtjlodddlbgpcdaaDoorWalkDo2
import Derived.Test.YtjlodddlbgpcdaaDoorWalkStep
import Derived.Test.YtjlodddlbgpcdaaDoorWalkSome
import Derived.Test.YtjlodddlbgpcdaaDoorWalkAwake
import Derived.Test.YtjlodddlbgpcdaaDoorWalkNil
import Derived.Test.YtjlodddlbgpcdaaDoorWalkPl
import Derived.Test.YtjlodddlbgpcdaaDoorWalkRs0
import Derived.Test.YtjlodddlbgpcdaaDoorWalkRs1
import Derived.Test.YtjlodddlbgpcdaaDoorWalkRs2
import Derived.Test.YtjlodddlbgpcdaaDoorWalkRs3
import Derived.Test.YtjlodddlbgpcdaaDoorWalkRs4
import Derived.Test.YtjlodddlbgpcdaaDoorWalkRsA
import Derived.Test.YtjlodddlbgpcdaaDoorWalkBoth
import Derived.Test.YtjlodddlbgpcdaaDoorWalkRaw
import Derived.Lib.Hide
import Derived.WalkKit
import Derived.WalkSpells
import Derived.WalkLawsBesides
import Derived.Deep.QuietTactic
import Derived.BigQuiet
import Derived.Deep.RegionHeld3
import Derived.Deep.DeepCutAuto
import Derived.Deep.CutBlock
import Derived.Lib.SlBytesConst
import Derived.StillTailTactics
import Derived.RegionTactic
import Derived.Deep.RegionLaw
import Derived.Laws.BytesString
import Derived.Laws.MakeOwn
import Derived.Deep.AppendLies
import Derived.Laws.CopyOwn
import Derived.Maps.AppendAt
import Derived.Deep.Upon
import Derived.Deep.AppendSrc
import Derived.Shelf.Abstract
import Derived.Shelf.Spec.TrailingZeros
namespace Go.Proofs.YtjlodddlbgpcdaaDoor.Walks
set_option linter.unusedVariables false
set_option linter.unusedSimpArgs false
open Go.RowKit Go.Proofs.YtjlodddlbgpcdaaDoor.Bits Go.Proofs.YtjlodddlbgpcdaaDoor.Heap Go.Proofs.YtjlodddlbgpcdaaDoor.Aid Go.Proofs.YtjlodddlbgpcdaaDoor.Arr Go.Proofs.YtjlodddlbgpcdaaDoor.Eql

theorem size16 : (Tryd.prog.info? 23).map (·.size) = some 16 := by kernel_rfl
theorem seat_regs {w w1 : World} {b : Nat} {y : Se} {YC : List Value} (h : y.Ok) (hc : y.cells = YC) (X : Own w b YC 26 w1) : w1.rangeAt b 0 ((y.r.take 16).map enc64) ∧ ((y.r.take 16).map enc64).length = 16 := by
  have hl := h.l
  refine ⟨?_, by simp [hl]⟩
  subst hc
  have e : y.cells = (y.r.take 16).map enc64 ++ ((y.r.drop 16).map enc64 ++ [.bool y.op, .int .u8 (y.st : Int), .int .u32 (y.pe : Int), .int .u32 (y.ma : Int)]) := by
    rw [← List.append_assoc, ← List.map_append, List.take_append_drop]; rfl
  have h2 := X.all
  rw [e] at h2
  intro j v hj
  refine h2 j v ?_
  have hlt : j < ((y.r.take 16).map enc64).length := by
    rcases Nat.lt_or_ge j ((y.r.take 16).map enc64).length with h1 | h1
    · exact h1
    · rw [List.getElem?_eq_none h1] at hj; cases hj
  rw [List.getElem?_append_left hlt, hj]
theorem list16 (l : List Value) (h : l.length = 16) : ∃ r0 r1 r2 r3 r4 r5 r6 r7 r8 r9 r10 r11 r12 r13 r14 r15, l = [r0, r1, r2, r3, r4, r5, r6, r7, r8, r9, r10, r11, r12, r13, r14, r15] := by
  match l, h with
  | [r0, r1, r2, r3, r4, r5, r6, r7, r8, r9, r10, r11, r12, r13, r14, r15], _ => exact ⟨r0, r1, r2, r3, r4, r5, r6, r7, r8, r9, r10, r11, r12, r13, r14, r15, rfl⟩
/-- A plain seat: its registers, where traps go, its lines. -/
def plS (y : Se) : Se := ⟨y.r.take 16 ++ [0, 0, y.r.getD 18 0 % 64 * 4, 0, 0, 0], y.op, 0, y.pe, y.ma⟩
theorem plS_ok {y : Se} (h : y.Ok) : (plS y).Ok := by
  refine ⟨by simp [plS, h.l], ?_, by show 0 < 256; decide, h.p, h.m⟩
  intro v hv
  simp only [plS, List.mem_append, List.mem_cons, List.not_mem_nil, or_false] at hv
  rcases hv with hv | rfl | rfl | rfl | rfl | rfl | rfl
  · exact h.w v (List.mem_of_mem_take hv)
  all_goals omega
theorem plS_cells (y : Se) : (plS y).cells = (y.r.take 16).map enc64 ++ [.int .u64 0, .int .u64 0, .int .u64 (((y.r.getD 18 0 : Nat) : Int) % 64 * 4), .int .u64 0, .int .u64 0, .int .u64 0, .bool y.op, .int .u8 0, .int .u32 (y.pe : Int), .int .u32 (y.ma : Int)] := by
  unfold plS Se.cells
  simp [enc64]
theorem foldl_size (l : List (Value × Nat)) : ∀ A : Array Value, (List.foldl (fun cs x => cs.setIfInBounds x.snd x.fst) A l).size = A.size := by
  induction l with
  | nil => intro A; rfl
  | cons x l ih => intro A; rw [List.foldl_cons, ih]; simp
theorem owns_less {w : World} {base base' size n : Nat} {e : TypeId} {v : Value} {xs : List Value} (h : w.ownsRow base e size v n xs) (hb : base' ≤ base) : w.ownsRow base' e size v n xs :=
  ⟨h.1, by
    rcases h.2 with h0 | ⟨g, cap, cur, hv, hg, hr⟩
    · exact .inl h0
    · exact .inr ⟨g, cap, cur, hv, Nat.le_trans hb hg, hr⟩⟩
theorem Mm.less {B B' mb : Nat} {pv : Nat → Value} {M : Me} {w : World} (s : Mm B mb pv M w) (h : B' ≤ B) : Mm B' mb pv M w :=
  ⟨s.c, fun i hi => owns_less (s.r i hi) h, s.l, s.x, s.nm, s.nn, Nat.le_trans h s.b⟩
/-- The same two memories, told from an elder world. -/
theorem S2.less {ma mb : Nat} {pa pb : Nat → Value} {M N : Me} {w w0 w1 : World} (s : S2 ma mb pa pb M N w0 w1) (hb : Below w.heap.size w w1) (h : w.heap.size ≤ w0.heap.size) : S2 ma mb pa pb M N w w1 :=
  ⟨s.a.less h, s.b.less h, s.ap, hb⟩
theorem S2.ge {ma mb : Nat} {pa pb : Nat → Value} {M N : Me} {w0 w1 : World} (s : S2 ma mb pa pb M N w0 w1) {g : Nat} (h : Mm.F ma pa g ∨ Mm.F mb pb g) : w0.heap.size ≤ g := by
  rcases h with h | h
  · exact (Mm.F.lt s.a h).1
  · exact (Mm.F.lt s.b h).1
/-- A block elsewhere is stored whole. -/
theorem S2.setO {ma mb : Nat} {pa pb : Nat → Value} {M N : Me} {w w1 : World} (s : S2 ma mb pa pb M N w w1) {b : Nat} (hb : w.heap.size ≤ b) (hn : ¬ (Mm.F ma pa b ∨ Mm.F mb pb b)) (o : Nat) (vs : List Value) : S2 ma mb pa pb M N w (w1.setCells b o vs) := by
  have hk : Keep (fun g => g = b) w1 (w1.setCells b o vs) := keep_setCells (Keep.refl (fun g => g = b) w1) (fun _ => rfl) o vs
  exact ⟨s.a.keep hk (fun g hg e => hn (e ▸ .inl hg)), s.b.keep hk (fun g hg e => hn (e ▸ .inr hg)), s.ap, Keep.belowB s.bel hk s.bel.size (fun i hi e => by omega)⟩
set_option maxRecDepth 8000 in
set_option maxHeartbeats 8000000 in
theorem cpuRuns_walk (c : List Value) (v1 v2 : Value) (a3 a4 a5 : Int) (b6 : Bool) (w : World) (f : Fits w seSh c) (f1 : Fits w (.slice (.int .u8)) [v1]) (f2 : Fits w (.slice (.int .u8)) [v2]) (wa3 : (Lit.int .u32 a3).wf = true) (wa4 : (Lit.int .u32 a4).wf = true) (wa5 : (Lit.int .u8 a5).wf = true) (hT : TabAt 0 Lib.deBruijn64tab w) :
    Calls Tryd.prog 5 #[.agg c.toArray, v1, v2, .int .u32 a3, .int .u32 a4, .int .u8 a5, .bool b6] w fun e w' => e = .returned (.bool true) ∧ Below w.heap.size w w' := by
  obtain ⟨x, rfl, h⟩ := seat_of_fits f
  obtain ⟨pl, rp, hp8, hpm⟩ := bytes_row f1
  obtain ⟨ql, rq, hq8, hqm⟩ := bytes_row f2
  obtain ⟨here, rfl, hh⟩ := Bits.wf_u32 wa3
  obtain ⟨wrt, rfl, hw⟩ := Bits.wf_u32 wa4
  obtain ⟨st, rfl, hs⟩ := Bits.wf_u8 wa5
  clear f f1 f2 wa3 wa4 wa5
  obtain ⟨ap, cp, rfl⟩ := rp.form
  obtain ⟨aq, cq, rfl⟩ := rq.form
  have RP := Lib.hid rp
  have RQ := Lib.hid rq
  have P8 := Lib.hid hp8
  have Q8 := Lib.hid hq8
  have HT := Lib.hid hT
  have HS := Lib.hid hs
  have LX := Lib.hid h.len
  have IX := Lib.hid (info_se h)
  have okn := Lib.hid (near_ok h)
  have ok8 := Lib.hid (near_ok8 x)
  have HN := Lib.hid (near_calls x h)
  have IN := Lib.hid (info_se okn.out)
  have LN := Lib.hid okn.out.len
  have ON := Lib.hid (Se.one (nearS x))
  generalize nearS x = y at *
  generalize hYC : y.cells = YC at *
  have HYC := Lib.hid hYC
  generalize x.cells = XC at *
  clear hYC h rq hq8 rp hp8 hT hs
  have hlq : (ql.length : Int) ≤ 9223372036854775807 := by unfold maxLen at hqm; omega
  have hlq0 : 0 ≤ (ql.length : Int) := by omega
  have hlp : (pl.length : Int) ≤ 9223372036854775807 := by unfold maxLen at hpm; omega
  have hlp0 : 0 ≤ (pl.length : Int) := by omega
  have X1 : Hid (Own w w.heap.size XC 26 (w.alloc (.cells XC.toArray 26))) := Own.newL (Below.refl _ _) _ _
  by_cases hlen : pl.length ≤ 256 ∧ ql.length ≤ 256
  · obtain ⟨hlen, hlen2⟩ := hlen
    have hl2 : ¬ (256 : Int) < pl.length := by omega
    have hl3 : ¬ (256 : Int) < ql.length := by omega
    go_enter Tryd.func5, Tryd.ntmps5
    go_upto_region 1 with (fail)
    generalize w.alloc (.cells XC.toArray 26) = w1 at *
    go_upto_region 3 with (go_at_call 10; refine (awake_calls _ (tab_below HT.out X1.out.bel)).mono ?_; rintro e w2 ⟨rfl, u⟩; have X2 := Lib.hid (X1.out.step u); clear u)
    clear X1
    go_upto_region 4 with (first
      | (refine wpList_load_mid rfl 26 (.tmp 7) rfl w.heap.size 0 rfl XC _ X2.out.all Tryd.underlying26 rfl IX.out ?_)
      | (go_at_call 11; refine (HN.out _).mono ?_; rintro e w3 ⟨rfl, u2⟩; have X3 := Lib.hid (X2.out.step u2); clear u2)
      | (refine wpList_store_mid rfl 26 (.tmp 7) (.tmp 34) rfl w.heap.size 0 YC.toArray rfl rfl (X3.out.there ?s1) ?s2 ?s3 ?_))
    case s1 => have h1 := LX.out; have h2 := LN.out; simp; omega
    case s2 => simpa using IN.out
    case s3 => first | exact ON.out | exact all_oneCell_toArray ON.out
    have X4 := Lib.hid (X3.out.setAll YC (by rw [LX.out, LN.out]))
    generalize World.setCells _ _ _ _ = w4 at *
    clear HN X2 X3
    cases b6 with
    | true =>
      go_upto_region 5 with (fail)
      have G18 := okn.out.gr (i := 18) (by decide)
      have G22 := okn.out.g22
      have G24 := okn.out.g24
      have G25 := okn.out.g25
      rw [HYC.out] at G18 G22 G24 G25
      have c18 := X4.out.cell G18
      have c22 := X4.out.cell G22
      have c24 := X4.out.cell G24
      have c25 := X4.out.cell G25
      have R16 := Lib.hid (seat_regs okn.out HYC.out X4.out)
      have I16 := Lib.hid size16
      have hr16 : ((y.r.take 16).map enc64).length = 16 := R16.out.2
      have HZ := plS_cells y
      have PO := Lib.hid (plS_ok okn.out)
      have PL8 := Lib.hid (show (plS y).Ok8 from ⟨ok8.out.p, ok8.out.m⟩)
      have ZL := Lib.hid PO.out.len
      have ZI := Lib.hid (info_se PO.out)
      have ZO := Lib.hid (Se.one (plS y))
      generalize plS y = z at *
      generalize hzc : z.cells = ZC at *
      have HZC := Lib.hid hzc
      clear hzc
      generalize y.r.getD 18 0 = v18 at *
      generalize (y.r.take 16).map enc64 = RC at *
      have HZ' := Lib.hid HZ
      have hfs := foldl_size RC.zipIdx
      clear HZ G18 G22 G24 G25
      go_upto_region 6 with (first
        | ((with_reducible refine load_gate (23) (36) ?_); refine wpList_load_mid rfl 23 (.tmp 36) rfl w.heap.size 0 rfl RC _ R16.out.1 Tryd.underlying23 rfl (by rw [R16.out.2]; exact I16.out) ?_)
        | ((with_reducible refine store_gate (26) (7) (48) ?_); refine wpList_store_mid rfl 26 (.tmp 7) (.tmp 48) rfl w.heap.size 0 ZC.toArray rfl ?hv (X4.out.there ?s4) ?s5 ?s6 ?_))
      case hv =>
        obtain ⟨r0, r1, r2, r3, r4, r5, r6, r7, r8, r9, r10, r11, r12, r13, r14, r15, h16⟩ := list16 RC R16.out.2
        have e := HZ'.out
        clear hr16 hfs
        subst h16
        subst e
        show (_ : Value) = _
        kernel_rfl
      case s4 => have h1 := LN.out; have h2 := ZL.out; simp; omega
      case s5 => simpa using ZI.out
      case s6 => first | exact ZO.out | exact all_oneCell_toArray ZO.out
      have XS := Lib.hid (X4.out.setAll ZC (by rw [LN.out, ZL.out]))
      generalize World.setCells _ _ _ _ = wS at *
      have hor := or_one hh
      generalize here ||| 1 = h1 at *
      clear X4 c18 c22 c24 c25 R16 I16 hr16 HZ' hfs
      go_upto_region 7 with (fail)
      clear hor
      have RPs := Lib.hid (RP.out.below XS.out.bel)
      have RQs := Lib.hid (RQ.out.below XS.out.bel)
      have SM := Lib.hid (mksome_calls h1 wrt (.slice ap pl.length cp) (.slice aq ql.length cq) pl ql wS RPs.out RQs.out P8.out Q8.out hlen hlen2)
      go_upto_region 8 with (go_at_call 14; refine SM.out.mono ?_; rintro e w8 ⟨ma, mb, pa, pb, rfl, s8⟩; have S8 := Lib.hid s8; clear s8)
      have X8 := Lib.hid (XS.out.step S8.out.bel)
      have NF := Lib.hid (show ∀ g, Mm.F ma pa g ∨ Mm.F mb pb g → w.heap.size < g from fun g hg => Nat.lt_of_lt_of_le XS.out.lt (S8.out.ge hg))
      have S9 := Lib.hid (S8.out.less X8.out.bel XS.out.bel.size)
      generalize someM h1 wrt pl ql 32 = M0 at *
      clear RPs RQs SM XS S8 RP RQ P8 Q8 hlq hlq0 hlp hlp0 hpm hqm hlen hlen2 hl2 hl3
      have hz := zero_val
      have HZL := Lib.hid zero_ok.len
      have hzs : zeroSe.cells.toArray.size = 26 := by simpa using HZL.out
      have hzn : ¬ zeroSe.cells.toArray = #[] := fun h => by rw [h] at hzs; simp at hzs
      go_upto_region 9 with (fail)
      go_loopw [17] (fun vi wr => ∃ (k : Nat) (zz : Se) (M : Me), k ≤ st ∧ vi = .int .i64 k ∧ zz.Ok ∧ zz.Ok8 ∧ Own w w.heap.size zz.cells 26 wr ∧ S2 ma mb pa pb M M w wr) (fun vi _ => st - (intOf vi).toNat)
      case atStart => exact ⟨0, z, M0, Nat.zero_le _, rfl, PO.out, PL8.out, HZC.out ▸ X8.out, S9.out⟩
      case round =>
        obtain ⟨k, zz, M, hk, rfl, ok, ok8', X, S⟩ := hrel
        have X10 := Lib.hid X
        have S10 := Lib.hid S
        have KOK := Lib.hid ok
        have KO8 := Lib.hid ok8'
        clear X S ok ok8' X8 S9
        by_cases hlt : k < st
        · have hki : (k : Int) < (st : Int) := by omega
          have hk0 : 0 ≤ (k : Int) := by omega
          have hs255 := HS.out
          have hk1 : (k : Int) ≤ 255 := by omega
          have BC := Lib.hid (both_calls zz KOK.out KO8.out S10.out (k : Int) 0 (by omega) (tab_below HT.out X10.out.bel) (tab_lt HT.out))
          have AO := Lib.hid (stepL_ok KOK.out KO8.out S10.out.a.x (k : Int) 0 (by omega))
          unfold BothP at BC
          generalize stepL zz M (k : Int) 0 = o at *
          have YL := Lib.hid AO.out.1.len
          have KL := Lib.hid KOK.out.len
          have I1 := Lib.hid (info_se AO.out.1)
          have IK := Lib.hid (info_se KOK.out)
          have YO := Lib.hid (Se.one o.x)
          have hwk : IntKind.u64.wrap (k : Int) = (k : Int) := by rw [wrap_u64]; omega
          go_upto_region 12 with (first
            | (refine wpList_load_mid rfl 26 (.tmp 7) rfl w.heap.size 0 rfl zz.cells _ X10.out.all Tryd.underlying26 rfl IK.out ?_)
            | (go_at_call 15; refine BC.out.mono ?_; rintro e w11 ⟨rfl, s11, k11⟩; have X11 := Lib.hid (X10.out.keep k11 (fun q => by have := NF.out w.heap.size (by rcases q with q | q; exact .inl (.inr q); exact .inr (.inr q)); omega) (fun i hi q => by have := NF.out i (by rcases q with q | q; exact .inl (.inr q); exact .inr (.inr q)); omega)); have S11 := Lib.hid s11; clear s11 k11; have N12 := Lib.hid (Own.newL X11.out.bel zeroSe.cells (26 : Nat)))
            | (refine wpList_store_mid rfl 26 (.tmp 18) (.tmp 72) rfl w11.heap.size 0 o.x.cells.toArray rfl rfl (N12.out.there ?s1) ?s2 ?s3 ?_))
          case s1 => have h1 := HZL.out; have h2 := YL.out; simp; omega
          case s2 => simpa using I1.out
          case s3 => first | exact YO.out | exact all_oneCell_toArray YO.out
          have N13 := Lib.hid (N12.out.setAll o.x.cells (by rw [YL.out, HZL.out]))
          have B12 := Lib.hid (below_setCells ((Below.refl w11.heap.size w11).alloc (Nat.le_refl _) (.cells zeroSe.cells.toArray 26)) (Nat.le_refl _) 0 o.x.cells)
          have X13 := Lib.hid (X11.out.step B12.out)
          have S13 := Lib.hid (S11.out.below B12.out)
          clear N12 X11 S11 B12 X10 S10 BC
          generalize World.setCells _ _ _ _ = w13 at *
          generalize w11.heap.size = nt at *
          have X14 := Lib.hid (X13.out.setAll o.x.cells (by rw [YL.out, KL.out]))
          have S14 := Lib.hid (S13.out.setO (b := w.heap.size) (Nat.le_refl _) (fun q => by have := NF.out _ q; omega) 0 o.x.cells)
          go_wp2_with (first
            | (refine wpList_load_mid rfl 26 (.tmp 18) rfl nt 0 rfl o.x.cells _ N13.out.all Tryd.underlying26 rfl I1.out ?_)
            | (refine wpList_store_mid rfl 26 (.tmp 7) (.tmp 76) rfl w.heap.size 0 o.x.cells.toArray rfl rfl (X13.out.there ?s4) ?s5 ?s6 ?_))
          case s4 => have h1 := KL.out; have h2 := YL.out; simp; omega
          case s5 => simpa using I1.out
          case s6 => first | exact YO.out | exact all_oneCell_toArray YO.out
          all_goals exact ⟨⟨k + 1, o.x, o.M, by omega, by go_num, AO.out.1, AO.out.2, X14.out, S14.out⟩, by simp only [intOf]; omega⟩
        · have e : k = st := by omega
          subst e
          have hs255 := HS.out
          have hki : ¬ (k : Int) < (k : Int) := by omega
          go_wp2
          go_ret
          exact ⟨rfl, X10.out.bel⟩
    | false =>
      go_upto_region 7 with (fail)
      have XS := X4
      clear X4
      generalize w4 = wS at *
      have RPs := Lib.hid (RP.out.below XS.out.bel)
      have RQs := Lib.hid (RQ.out.below XS.out.bel)
      have SM := Lib.hid (mksome_calls here wrt (.slice ap pl.length cp) (.slice aq ql.length cq) pl ql wS RPs.out RQs.out P8.out Q8.out hlen hlen2)
      go_upto_region 8 with (go_at_call 14; refine SM.out.mono ?_; rintro e w8 ⟨ma, mb, pa, pb, rfl, s8⟩; have S8 := Lib.hid s8; clear s8)
      have X8 := Lib.hid (XS.out.step S8.out.bel)
      have NF := Lib.hid (show ∀ g, Mm.F ma pa g ∨ Mm.F mb pb g → w.heap.size < g from fun g hg => Nat.lt_of_lt_of_le XS.out.lt (S8.out.ge hg))
      have S9 := Lib.hid (S8.out.less X8.out.bel XS.out.bel.size)
      generalize someM here wrt pl ql 32 = M0 at *
      clear RPs RQs SM XS S8 RP RQ P8 Q8 hlq hlq0 hlp hlp0 hpm hqm hlen hlen2 hl2 hl3
      have hz := zero_val
      have HZL := Lib.hid zero_ok.len
      have hzs : zeroSe.cells.toArray.size = 26 := by simpa using HZL.out
      have hzn : ¬ zeroSe.cells.toArray = #[] := fun h => by rw [h] at hzs; simp at hzs
      go_upto_region 9 with (fail)
      go_loopw [17] (fun vi wr => ∃ (k : Nat) (zz : Se) (M : Me), k ≤ st ∧ vi = .int .i64 k ∧ zz.Ok ∧ zz.Ok8 ∧ Own w w.heap.size zz.cells 26 wr ∧ S2 ma mb pa pb M M w wr) (fun vi _ => st - (intOf vi).toNat)
      case atStart => exact ⟨0, y, M0, Nat.zero_le _, rfl, okn.out, ok8.out, HYC.out ▸ X8.out, S9.out⟩
      case round =>
        obtain ⟨k, zz, M, hk, rfl, ok, ok8', X, S⟩ := hrel
        have X10 := Lib.hid X
        have S10 := Lib.hid S
        have KOK := Lib.hid ok
        have KO8 := Lib.hid ok8'
        clear X S ok ok8' X8 S9
        by_cases hlt : k < st
        · have hki : (k : Int) < (st : Int) := by omega
          have hk0 : 0 ≤ (k : Int) := by omega
          have hs255 := HS.out
          have hk1 : (k : Int) ≤ 255 := by omega
          have BC := Lib.hid (both_calls zz KOK.out KO8.out S10.out (k : Int) 0 (by omega) (tab_below HT.out X10.out.bel) (tab_lt HT.out))
          have AO := Lib.hid (stepL_ok KOK.out KO8.out S10.out.a.x (k : Int) 0 (by omega))
          unfold BothP at BC
          generalize stepL zz M (k : Int) 0 = o at *
          have YL := Lib.hid AO.out.1.len
          have KL := Lib.hid KOK.out.len
          have I1 := Lib.hid (info_se AO.out.1)
          have IK := Lib.hid (info_se KOK.out)
          have YO := Lib.hid (Se.one o.x)
          have hwk : IntKind.u64.wrap (k : Int) = (k : Int) := by rw [wrap_u64]; omega
          go_upto_region 12 with (first
            | (refine wpList_load_mid rfl 26 (.tmp 7) rfl w.heap.size 0 rfl zz.cells _ X10.out.all Tryd.underlying26 rfl IK.out ?_)
            | (go_at_call 15; refine BC.out.mono ?_; rintro e w11 ⟨rfl, s11, k11⟩; have X11 := Lib.hid (X10.out.keep k11 (fun q => by have := NF.out w.heap.size (by rcases q with q | q; exact .inl (.inr q); exact .inr (.inr q)); omega) (fun i hi q => by have := NF.out i (by rcases q with q | q; exact .inl (.inr q); exact .inr (.inr q)); omega)); have S11 := Lib.hid s11; clear s11 k11; have N12 := Lib.hid (Own.newL X11.out.bel zeroSe.cells (26 : Nat)))
            | (refine wpList_store_mid rfl 26 (.tmp 18) (.tmp 72) rfl w11.heap.size 0 o.x.cells.toArray rfl rfl (N12.out.there ?s1) ?s2 ?s3 ?_))
          case s1 => have h1 := HZL.out; have h2 := YL.out; simp; omega
          case s2 => simpa using I1.out
          case s3 => first | exact YO.out | exact all_oneCell_toArray YO.out
          have N13 := Lib.hid (N12.out.setAll o.x.cells (by rw [YL.out, HZL.out]))
          have B12 := Lib.hid (below_setCells ((Below.refl w11.heap.size w11).alloc (Nat.le_refl _) (.cells zeroSe.cells.toArray 26)) (Nat.le_refl _) 0 o.x.cells)
          have X13 := Lib.hid (X11.out.step B12.out)
          have S13 := Lib.hid (S11.out.below B12.out)
          clear N12 X11 S11 B12 X10 S10 BC
          generalize World.setCells _ _ _ _ = w13 at *
          generalize w11.heap.size = nt at *
          have X14 := Lib.hid (X13.out.setAll o.x.cells (by rw [YL.out, KL.out]))
          have S14 := Lib.hid (S13.out.setO (b := w.heap.size) (Nat.le_refl _) (fun q => by have := NF.out _ q; omega) 0 o.x.cells)
          go_wp2_with (first
            | (refine wpList_load_mid rfl 26 (.tmp 18) rfl nt 0 rfl o.x.cells _ N13.out.all Tryd.underlying26 rfl I1.out ?_)
            | (refine wpList_store_mid rfl 26 (.tmp 7) (.tmp 76) rfl w.heap.size 0 o.x.cells.toArray rfl rfl (X13.out.there ?s4) ?s5 ?s6 ?_))
          case s4 => have h1 := KL.out; have h2 := YL.out; simp; omega
          case s5 => simpa using I1.out
          case s6 => first | exact YO.out | exact all_oneCell_toArray YO.out
          all_goals exact ⟨⟨k + 1, o.x, o.M, by omega, by go_num, AO.out.1, AO.out.2, X14.out, S14.out⟩, by simp only [intOf]; omega⟩
        · have e : k = st := by omega
          subst e
          have hs255 := HS.out
          have hki : ¬ (k : Int) < (k : Int) := by omega
          go_wp2
          go_ret
          exact ⟨rfl, X10.out.bel⟩
  · go_enter Tryd.func5, Tryd.ntmps5
    go_upto_region 1 with (fail)
    generalize w.alloc (.cells XC.toArray 26) = w1 at *
    by_cases hp : pl.length ≤ 256
    · have hl2 : ¬ (256 : Int) < pl.length := by omega
      have hl3 : (256 : Int) < ql.length := by omega
      go_upto_region 2 with (go_at_call 10; refine (awake_calls _ (tab_below HT.out X1.out.bel)).mono ?_; rintro e w2 ⟨rfl, u⟩; have X2 := Lib.hid (X1.out.step u); clear u)
      go_wp2_with (go_at_call 10; refine (awake_calls _ (tab_below HT.out X2.out.bel)).mono ?_; rintro e w3 ⟨rfl, u⟩; have X3 := Lib.hid (X2.out.step u); clear u)
      go_ret
      exact ⟨rfl, X3.out.bel⟩
    · have hl2 : (256 : Int) < pl.length := by omega
      go_upto_region 2 with (go_at_call 10; refine (awake_calls _ (tab_below HT.out X1.out.bel)).mono ?_; rintro e w2 ⟨rfl, u⟩; have X2 := Lib.hid (X1.out.step u); clear u)
      go_wp2_with (go_at_call 10; refine (awake_calls _ (tab_below HT.out X2.out.bel)).mono ?_; rintro e w3 ⟨rfl, u⟩; have X3 := Lib.hid (X2.out.step u); clear u)
      go_ret
      exact ⟨rfl, X3.out.bel⟩
end Go.Proofs.YtjlodddlbgpcdaaDoor.Walks
