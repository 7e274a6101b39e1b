/- Walks through the functions of the statement, and the statement over them: each contract says what the call answers and that nothing else changes. -/
import Derived.Test.YtjlodddlbgpcdaaDoorProg
import Derived.Test.YtjlodddlbgpcdaaDoorBits
import Derived.Test.YtjlodddlbgpcdaaDoorHeap
import Derived.Test.YtjlodddlbgpcdaaDoorAid
import Derived.Test.YtjlodddlbgpcdaaDoorArr
import Derived.Test.YtjlodddlbgpcdaaDoorEql
import Derived.Test.YtjlodddlbgpcdaaDoorWalkBase
import Derived.Test.YtjlodddlbgpcdaaDoorWalkCode
import Derived.Test.YtjlodddlbgpcdaaDoorWalkSeat
import Derived.Test.YtjlodddlbgpcdaaDoorWalkRef
import Derived.Test.YtjlodddlbgpcdaaDoorWalkRefR
import Derived.Test.YtjlodddlbgpcdaaDoorWalkBus
import Derived.Test.YtjlodddlbgpcdaaDoorWalkBus2
import Derived.Test.YtjlodddlbgpcdaaDoorWalkRefP
import Derived.Test.YtjlodddlbgpcdaaDoorWalkRefG
import Derived.Test.YtjlodddlbgpcdaaDoorWalkRefL
import Derived.Test.YtjlodddlbgpcdaaDoorWalkDo
import Derived.Test.YtjlodddlbgpcdaaDoorWalkDo2
import Derived.Test.YtjlodddlbgpcdaaDoorWalkStep
import Derived.Test.YtjlodddlbgpcdaaDoorWalkSome
import Derived.Test.YtjlodddlbgpcdaaDoorWalkAwake
import Derived.Test.YtjlodddlbgpcdaaDoorWalkNil
import Derived.Test.YtjlodddlbgpcdaaDoorWalkPl
import Derived.Test.YtjlodddlbgpcdaaDoorWalkRs0
import Derived.Test.YtjlodddlbgpcdaaDoorWalkRs1
import Derived.Test.YtjlodddlbgpcdaaDoorWalkRs2
import Derived.Test.YtjlodddlbgpcdaaDoorWalkRs3
import Derived.Test.YtjlodddlbgpcdaaDoorWalkRs4
import Derived.Test.YtjlodddlbgpcdaaDoorWalkRsA
import Derived.Test.YtjlodddlbgpcdaaDoorWalkBoth
import Derived.Test.YtjlodddlbgpcdaaDoorWalkRaw
import Derived.Test.YtjlodddlbgpcdaaDoorWalkRuns
import Derived.Test.YtjlodddlbgpcdaaDoorWalkOne
import Derived.Lib.Hide
import Derived.WalkKit
import Derived.WalkSpells
import Derived.WalkLawsBesides
import Derived.Deep.QuietTactic
import Derived.BigQuiet
import Derived.Deep.RegionHeld3
import Derived.Deep.DeepCutAuto
import Derived.Deep.CutBlock
import Derived.Lib.SlBytesConst
import Derived.StillTailTactics
import Derived.RegionTactic
import Derived.Deep.RegionLaw
import Derived.Laws.BytesString
import Derived.Laws.MakeOwn
import Derived.Deep.AppendLies
import Derived.Laws.CopyOwn
import Derived.Maps.AppendAt
import Derived.Deep.Upon
import Derived.Deep.AppendSrc
import Derived.Shelf.Abstract
import Derived.Shelf.Spec.TrailingZeros
namespace Go.Proofs.YtjlodddlbgpcdaaDoor.Walks
set_option linter.unusedVariables false
set_option linter.unusedSimpArgs false
open Go.RowKit Go.Proofs.YtjlodddlbgpcdaaDoor.Bits Go.Proofs.YtjlodddlbgpcdaaDoor.Heap Go.Proofs.YtjlodddlbgpcdaaDoor.Aid Go.Proofs.YtjlodddlbgpcdaaDoor.Arr Go.Proofs.YtjlodddlbgpcdaaDoor.Eql

/-- The page's bytes behind so many stores. -/
def pB (bd i k : Nat) : List Nat :=
  if i = 0 then (leB 4 bd).take k ++ List.replicate (32 - k) 0
  else if i = 1 then leB 4 bd ++ List.replicate 12 0 ++ (leB 4 retW).take k ++ List.replicate (16 - k) 0
  else trapP bd
theorem pB_04 (bd : Nat) : pB bd 0 4 = pB bd 1 0 := by simp [pB, leB, List.replicate]
theorem pB_14 (bd : Nat) : pB bd 1 4 = pB bd 2 0 := by simp [pB, leB, List.replicate, trapP]
theorem pB_0 (bd : Nat) : pB bd 0 0 = List.replicate 32 0 := by simp [pB]
theorem pB_2 (bd : Nat) : pB bd 2 0 = trapP bd := rfl
theorem pB_len (bd : Nat) {i k : Nat} (hi : i ≤ 2) (hk : k ≤ 4) : ((pB bd i k).map enc8).length = 32 := by
  rw [List.length_map]
  unfold pB
  split
  · simp [leB_length]; omega
  · split
    · simp [leB_length]; omega
    · exact trapP_len bd
theorem pB_s00 (bd : Nat) : ((pB bd 0 0).map enc8).set 0 (.int .u8 ((bd : Int) % 256)) = (pB bd 0 1).map enc8 := by simp [pB, byte4, List.replicate, enc8]
theorem pB_s01 (bd : Nat) : ((pB bd 0 1).map enc8).set 1 (.int .u8 ((bd : Int) / 256 % 256)) = (pB bd 0 2).map enc8 := by simp [pB, byte4, List.replicate, enc8]
theorem pB_s02 (bd : Nat) : ((pB bd 0 2).map enc8).set 2 (.int .u8 ((bd : Int) / 65536 % 256)) = (pB bd 0 3).map enc8 := by simp [pB, byte4, List.replicate, enc8]
theorem pB_s03 {bd : Nat} (h : bd < 2 ^ 32) : ((pB bd 0 3).map enc8).set 3 (.int .u8 ((bd : Int) / 16777216)) = (pB bd 0 4).map enc8 := by
  have e : (bd : Int) / 16777216 = ((bd / 16777216 % 256 : Nat) : Int) := by omega
  rw [e]
  simp [pB, byte4, List.replicate, enc8]
theorem pB_s10 (bd : Nat) : ((pB bd 1 0).map enc8).set 16 (.int .u8 0) = (pB bd 1 1).map enc8 := by simp [pB, byte4, List.replicate, enc8, retW]
theorem pB_s11 (bd : Nat) : ((pB bd 1 1).map enc8).set 17 (.int .u8 0) = (pB bd 1 2).map enc8 := by simp [pB, byte4, List.replicate, enc8, retW]
theorem pB_s12 (bd : Nat) : ((pB bd 1 2).map enc8).set 18 (.int .u8 0) = (pB bd 1 3).map enc8 := by simp [pB, byte4, List.replicate, enc8, retW]
theorem pB_s13 (bd : Nat) : ((pB bd 1 3).map enc8).set 19 (.int .u8 88) = (pB bd 1 4).map enc8 := by simp [pB, byte4, List.replicate, enc8, retW]
theorem ret_word : wordF 22 0 0 0 0 = retW := by decide +kernel
theorem bad_code {x : Nat} (h : x < 67108864) : 1543503872 ||| x = 1543503872 + x := (Nat.two_pow_add_eq_or_of_lt (i := 26) h 23).symm
theorem bad_dC {x : Nat} (h : x < 67108864) : dC (1543503872 + x) = 23 := by unfold dC; omega
theorem trapX_ok {r2 : Nat} (h : r2 < 2 ^ 64) : (trapX r2).Ok :=
  ⟨rfl, by intro y hy; simp only [trapX, List.mem_cons, List.not_mem_nil, or_false] at hy; omega, by show 0 < 256; decide, by show 0 < 2 ^ 32; decide, by show 0 < 2 ^ 32; decide⟩
/-- A cell elsewhere is stored. -/
theorem S2.setCO {ma mb : Nat} {pa pb : Nat → Value} {M N : Me} {w w1 : World} (s : S2 ma mb pa pb M N w w1) (b : Nat) (hb : w.heap.size ≤ b) (hn : ¬ (Mm.F ma pa b ∨ Mm.F mb pb b)) (o : Nat) (v : Value) : S2 ma mb pa pb M N w (w1.setCell ⟨b, o, none⟩ v) := by
  have hk : Keep (fun g => g = b) w1 (w1.setCell ⟨b, o, none⟩ v) := (Keep.refl (fun g => g = b) w1).setCell (p := ⟨b, o, none⟩) (fun _ => rfl) v
  exact ⟨s.a.keep hk (fun g hg e => hn (e ▸ .inl hg)), s.b.keep hk (fun g hg e => hn (e ▸ .inr hg)), s.ap, Keep.belowB s.bel hk s.bel.size (fun i hi e => by omega)⟩
/-- A step of the first memory's. -/
theorem S2.doA {ma mb : Nat} {pa pb : Nat → Value} {M M' N : Me} {w w1 w2 : World} (s : S2 ma mb pa pb M N w w1) {sb : Nat} (h : w.heap.size ≤ sb) (hn : ¬ Mm.F mb pb sb) (dm : Mm w.heap.size ma pa M' w2) (dk : Keep (fun g => g = sb ∨ PG pa g) w1 w2) : S2 ma mb pa pb M' N w w2 :=
  ⟨dm, s.b.keep dk (fun g hg q => by
    rcases q with q | q
    · exact hn (q ▸ hg)
    · exact s.ap g (.inr q) hg), s.ap, Keep.belowB s.bel dk s.bel.size (fun i hi q => by
    rcases q with q | q
    · omega
    · have := s.base (.inl q); omega)⟩
set_option maxRecDepth 8000 in
set_option maxHeartbeats 8000000 in
theorem cpuTraps_walk (a0 a1 : Int) (b2 : Bool) (w : World) (wa0 : (Lit.int .u64 a0).wf = true) (wa1 : (Lit.int .u32 a1).wf = true) (hT : TabAt 0 Lib.deBruijn64tab w) :
    Calls Tryd.prog 9 #[.int .u64 a0, .int .u32 a1, .bool b2] w fun e w' => e = .returned (.bool true) ∧ Below w.heap.size w w' := by
  obtain ⟨ad, rfl, had⟩ := Bits.wf_u64 wa0
  obtain ⟨n, rfl, hn⟩ := Bits.wf_u32 wa1
  clear wa0 wa1
  have HT := Lib.hid hT
  have W1 := Lib.hid (fun W => refWord_calls 12 1 2 0 0 (by decide) (by decide) (by decide) (by decide) W)
  have W2 := Lib.hid (fun W => refWord_calls 22 0 0 0 0 (by decide) (by decide) (by decide) (by decide) W)
  rw [ret_word, show retW = 1476395008 from rfl] at W2
  -- what it comes to
  have hr2 : (256 : Int) + (ad : Int) % 1099511627776 = ((256 + ad % 1099511627776 : Nat) : Int) := by omega
  have R2 := Lib.hid (show 256 + ad % 1099511627776 < 2 ^ 64 by omega)
  have R1 := Lib.hid (show 256 ≤ 256 + ad % 1099511627776 by omega)
  generalize 256 + ad % 1099511627776 = r2 at *
  obtain ⟨bd, ct, wn, hbd, hct, hbw, hst⟩ : ∃ bd ct wn : Nat, bd < 2 ^ 32 ∧ (ct = if b2 = true then 1 else 3) ∧ (if b2 = true then wn = bd ∧ bits .or .u32 1543503872 ((n : Int) % 67108864) = (bd : Int) else wn = r2 ∧ bd = wordF 12 1 2 0 0) ∧
      stepL (trapX r2) (someM 1 0 (trapP bd) [] 32) 0 0 = ⟨trapY r2 ct wn, someM 1 0 (trapP bd) [] 32, 1, ct⟩ := by
    cases b2 with
    | true =>
      have hx : n % 67108864 < 67108864 := Nat.mod_lt _ (by decide)
      refine ⟨1543503872 + n % 67108864, 1, 1543503872 + n % 67108864, by omega, rfl, ?_, trap_code (by omega) (bad_dC hx) r2⟩
      rw [if_pos rfl]
      refine ⟨rfl, ?_⟩
      rw [show ((n : Int) % 67108864) = ((n % 67108864 : Nat) : Int) by omega, show (1543503872 : Int) = ((1543503872 : Nat) : Int) from rfl, bits_or (k := .u32) rfl (by decide) (by show _ < 2 ^ 32; omega), bad_code hx]
    | false => exact ⟨wordF 12 1 2 0 0, 3, r2, by decide +kernel, rfl, by rw [if_neg (by simp)]; exact ⟨rfl, rfl⟩, trap_load R1.out R2.out⟩
  have HST := Lib.hid hst
  have BCK := Lib.hid (trap_back (bad := bd) r2 ct wn)
  have OKX := Lib.hid (show (trapX r2).Ok from ⟨rfl, by intro y hy; simp only [trapX, List.mem_cons, List.not_mem_nil, or_false] at hy; have := R2.out; omega, by show 0 < 256; decide, by show 0 < 2 ^ 32; decide, by show 0 < 2 ^ 32; decide⟩)
  have CTL : ct < 2 ^ 64 := by rw [hct]; split <;> decide
  have WNL : wn < 2 ^ 64 := by
    have := R2.out
    cases b2 with
    | true => rw [if_pos rfl] at hbw; omega
    | false => rw [if_neg (by simp)] at hbw; omega
  have OKY := Lib.hid (show (trapY r2 ct wn).Ok from ⟨rfl, by intro y hy; simp only [trapY, List.mem_cons, List.not_mem_nil, or_false] at hy; have := R2.out; omega, by show 0 < 256; decide, by show 0 < 2 ^ 32; decide, by show 0 < 2 ^ 32; decide⟩)
  have XC := Lib.hid (show (trapX r2).cells = _ from rfl)
  have T8 := Lib.hid (trapP_lt bd)
  have TL := Lib.hid (trapP_len bd)
  have HBD := Lib.hid hbd
  clear hst hT CTL WNL
  cases b2 with
  | true =>
    rw [if_pos rfl] at hct hbw
    obtain ⟨hwn, hor⟩ := hbw
    have hwn' := hwn.symm
    subst hwn'
    subst hct
    go_enter Tryd.func9, Tryd.ntmps9
    go_upto_region 3 with (go_at_call 10; refine (awake_calls _ HT.out).mono ?_; rintro e w2 ⟨rfl, u⟩; have B2 := Lib.hid u; clear u)
    go_upto_region 6 with (go_at_call 13; refine (W1.out _).mono ?_; rintro e w3 ⟨rfl, u⟩; have B3 := Lib.hid (B2.out.trans (u.mono B2.out.size)); clear u)
    obtain ⟨w4, hm, hsz, hbk, hbl⟩ := make_bytes w3 32 (by decide)
    have hm0 : (Instr.makeSlice 28 (.int .i64 32) (.int .i64 32)).run Tryd.prog w3 = .ok (.slice (some ⟨w3.heap.size, 0, none⟩) 32 32) w4 := hm
    have PB4 := Lib.hid (show Own w w3.heap.size ((pB bd 0 0).map enc8) 5 w4 from ⟨B3.out.trans (hbl.mono B3.out.size), B3.out.size, by rw [pB_0]; exact hbk⟩)
    clear hm hsz hbk hbl
    go_upto_region 7 with (fail)
    clear hm0 W1 B3
    generalize w3.heap.size = np at *
    go_upto_region 8 with (go_at_call 13; refine (W2.out _).mono ?_; rintro e w5 ⟨rfl, u⟩; have PB5 := Lib.hid (PB4.out.step u); clear u)
    have QB6 := Lib.hid (Own.newL PB5.out.bel [.int .u32 (bd : Int), .int .u32 1476395008] 24)
    have PB6 := Lib.hid (PB5.out.alloc (.cells #[.int .u32 (bd : Int), .int .u32 1476395008] 24))
    have NE := Lib.hid (show np < w5.heap.size from PB5.out.lt)
    clear W2 PB4 PB5
    generalize w5.alloc _ = w6 at *
    generalize w5.heap.size = nq at *
    have hbd0 : 0 ≤ (bd : Int) := by omega
    have hbd1 : (bd : Int) ≤ 4294967295 := by have := HBD.out; omega
    go_upto_region 9 with (fail)
    go_loopw [10, 11] (fun iv kv wr => ∃ i : Nat, i ≤ 2 ∧ iv = .int .i64 i ∧ Own w np ((pB bd i 0).map enc8) 5 wr ∧ Own w nq [.int .u32 (bd : Int), .int .u32 1476395008] 24 wr) (fun iv _ _ => 2 - (intOf iv).toNat)
    case atStart => exact ⟨0, by omega, rfl, PB6.out, QB6.out⟩
    case round =>
      obtain ⟨i, hi, rfl, P, Q⟩ := hrel
      have PB7 := Lib.hid P
      have QB7 := Lib.hid Q
      clear P Q PB6 QB6
      rcases (show i = 0 ∨ i = 1 ∨ i = 2 by omega) with rfl | rfl | rfl
      · go_upto_region 12 with (fail)
        go_loopw [11] (fun kv wq => ∃ k : Nat, k ≤ 4 ∧ kv = .int .i64 k ∧ Own w np ((pB bd 0 k).map enc8) 5 wq ∧ Own w nq [.int .u32 (bd : Int), .int .u32 1476395008] 24 wq) (fun kv _ => 4 - (intOf kv).toNat)
        case atStart => exact ⟨0, by omega, rfl, PB7.out, QB7.out⟩
        case round =>
          obtain ⟨k, hk, rfl, P, Q⟩ := hrel
          have PB8 := Lib.hid P
          have QB8 := Lib.hid Q
          have q0 := Q.cell (i := 0) rfl
          clear P Q PB7 QB7
          rcases (show k = 0 ∨ k = 1 ∨ k = 2 ∨ k = 3 ∨ k = 4 by omega) with rfl | rfl | rfl | rfl | rfl
          · as_aux_lemma =>
              have ct := PB8.out.k.cellAt (i := 0) (v := ((pB bd 0 0).map enc8).getD 0 undef) (by rw [List.getD_eq_getElem?_getD, List.getElem?_eq_getElem (by rw [pB_len bd (by omega) (by omega)]; decide)]; rfl)
              have cf := PB8.out.fro 0
              have PB9 := Lib.hid (PB8.out.set 0 (.int .u8 ((bd : Int) % 256)))
              rw [(pB_s00 bd)] at PB9
              have QB9 := Lib.hid (QB8.out.setO (Nat.ne_of_lt NE.out) PB8.out.n 0 (.int .u8 ((bd : Int) % 256)))
              clear PB8 QB8
              go_wp2
              go_roundw
              case rel => first | exact ⟨0 + 1, by omega, by rfl, PB9.out, QB9.out⟩ | ((repeat apply Exists.intro); exact ⟨⟨0 + 1, by omega, by rfl, PB9.out, QB9.out⟩, rfl⟩)
              case measure => simp [intOf]
          · as_aux_lemma =>
              have ct := PB8.out.k.cellAt (i := 1) (v := ((pB bd 0 1).map enc8).getD 1 undef) (by rw [List.getD_eq_getElem?_getD, List.getElem?_eq_getElem (by rw [pB_len bd (by omega) (by omega)]; decide)]; rfl)
              have cf := PB8.out.fro 1
              have PB9 := Lib.hid (PB8.out.set 1 (.int .u8 ((bd : Int) / 256 % 256)))
              rw [(pB_s01 bd)] at PB9
              have QB9 := Lib.hid (QB8.out.setO (Nat.ne_of_lt NE.out) PB8.out.n 1 (.int .u8 ((bd : Int) / 256 % 256)))
              clear PB8 QB8
              go_wp2
              go_roundw
              case rel => first | exact ⟨1 + 1, by omega, by rfl, PB9.out, QB9.out⟩ | ((repeat apply Exists.intro); exact ⟨⟨1 + 1, by omega, by rfl, PB9.out, QB9.out⟩, rfl⟩)
              case measure => simp [intOf]
          · as_aux_lemma =>
              have ct := PB8.out.k.cellAt (i := 2) (v := ((pB bd 0 2).map enc8).getD 2 undef) (by rw [List.getD_eq_getElem?_getD, List.getElem?_eq_getElem (by rw [pB_len bd (by omega) (by omega)]; decide)]; rfl)
              have cf := PB8.out.fro 2
              have PB9 := Lib.hid (PB8.out.set 2 (.int .u8 ((bd : Int) / 65536 % 256)))
              rw [(pB_s02 bd)] at PB9
              have QB9 := Lib.hid (QB8.out.setO (Nat.ne_of_lt NE.out) PB8.out.n 2 (.int .u8 ((bd : Int) / 65536 % 256)))
              clear PB8 QB8
              go_wp2
              go_roundw
              case rel => first | exact ⟨2 + 1, by omega, by rfl, PB9.out, QB9.out⟩ | ((repeat apply Exists.intro); exact ⟨⟨2 + 1, by omega, by rfl, PB9.out, QB9.out⟩, rfl⟩)
              case measure => simp [intOf]
          · as_aux_lemma =>
              have ct := PB8.out.k.cellAt (i := 3) (v := ((pB bd 0 3).map enc8).getD 3 undef) (by rw [List.getD_eq_getElem?_getD, List.getElem?_eq_getElem (by rw [pB_len bd (by omega) (by omega)]; decide)]; rfl)
              have cf := PB8.out.fro 3
              have PB9 := Lib.hid (PB8.out.set 3 (.int .u8 ((bd : Int) / 16777216)))
              rw [(pB_s03 HBD.out)] at PB9
              have QB9 := Lib.hid (QB8.out.setO (Nat.ne_of_lt NE.out) PB8.out.n 3 (.int .u8 ((bd : Int) / 16777216)))
              clear PB8 QB8
              go_wp2
              go_roundw
              case rel => first | exact ⟨3 + 1, by omega, by rfl, PB9.out, QB9.out⟩ | ((repeat apply Exists.intro); exact ⟨⟨3 + 1, by omega, by rfl, PB9.out, QB9.out⟩, rfl⟩)
              case measure => simp [intOf]
          · clear q0
            go_wp2
            go_roundw
            case rel => first | exact ⟨1, by omega, by rfl, pB_04 bd ▸ PB8.out, QB8.out⟩ | ((repeat apply Exists.intro); exact ⟨⟨1, by omega, by rfl, pB_04 bd ▸ PB8.out, QB8.out⟩, rfl⟩)
            case measure => simp [intOf]
      · go_upto_region 12 with (fail)
        go_loopw [11] (fun kv wq => ∃ k : Nat, k ≤ 4 ∧ kv = .int .i64 k ∧ Own w np ((pB bd 1 k).map enc8) 5 wq ∧ Own w nq [.int .u32 (bd : Int), .int .u32 1476395008] 24 wq) (fun kv _ => 4 - (intOf kv).toNat)
        case atStart => exact ⟨0, by omega, rfl, PB7.out, QB7.out⟩
        case round =>
          obtain ⟨k, hk, rfl, P, Q⟩ := hrel
          have PB8 := Lib.hid P
          have QB8 := Lib.hid Q
          have q0 := Q.cell (i := 1) rfl
          clear P Q PB7 QB7
          rcases (show k = 0 ∨ k = 1 ∨ k = 2 ∨ k = 3 ∨ k = 4 by omega) with rfl | rfl | rfl | rfl | rfl
          · as_aux_lemma =>
              have ct := PB8.out.k.cellAt (i := 16) (v := ((pB bd 1 0).map enc8).getD 16 undef) (by rw [List.getD_eq_getElem?_getD, List.getElem?_eq_getElem (by rw [pB_len bd (by omega) (by omega)]; decide)]; rfl)
              have cf := PB8.out.fro 16
              have PB9 := Lib.hid (PB8.out.set 16 (.int .u8 (0)))
              rw [(pB_s10 bd)] at PB9
              have QB9 := Lib.hid (QB8.out.setO (Nat.ne_of_lt NE.out) PB8.out.n 16 (.int .u8 (0)))
              clear PB8 QB8
              go_wp2
              go_roundw
              case rel => first | exact ⟨0 + 1, by omega, by rfl, PB9.out, QB9.out⟩ | ((repeat apply Exists.intro); exact ⟨⟨0 + 1, by omega, by rfl, PB9.out, QB9.out⟩, rfl⟩)
              case measure => simp [intOf]
          · as_aux_lemma =>
              have ct := PB8.out.k.cellAt (i := 17) (v := ((pB bd 1 1).map enc8).getD 17 undef) (by rw [List.getD_eq_getElem?_getD, List.getElem?_eq_getElem (by rw [pB_len bd (by omega) (by omega)]; decide)]; rfl)
              have cf := PB8.out.fro 17
              have PB9 := Lib.hid (PB8.out.set 17 (.int .u8 (0)))
              rw [(pB_s11 bd)] at PB9
              have QB9 := Lib.hid (QB8.out.setO (Nat.ne_of_lt NE.out) PB8.out.n 17 (.int .u8 (0)))
              clear PB8 QB8
              go_wp2
              go_roundw
              case rel => first | exact ⟨1 + 1, by omega, by rfl, PB9.out, QB9.out⟩ | ((repeat apply Exists.intro); exact ⟨⟨1 + 1, by omega, by rfl, PB9.out, QB9.out⟩, rfl⟩)
              case measure => simp [intOf]
          · as_aux_lemma =>
              have ct := PB8.out.k.cellAt (i := 18) (v := ((pB bd 1 2).map enc8).getD 18 undef) (by rw [List.getD_eq_getElem?_getD, List.getElem?_eq_getElem (by rw [pB_len bd (by omega) (by omega)]; decide)]; rfl)
              have cf := PB8.out.fro 18
              have PB9 := Lib.hid (PB8.out.set 18 (.int .u8 (0)))
              rw [(pB_s12 bd)] at PB9
              have QB9 := Lib.hid (QB8.out.setO (Nat.ne_of_lt NE.out) PB8.out.n 18 (.int .u8 (0)))
              clear PB8 QB8
              go_wp2
              go_roundw
              case rel => first | exact ⟨2 + 1, by omega, by rfl, PB9.out, QB9.out⟩ | ((repeat apply Exists.intro); exact ⟨⟨2 + 1, by omega, by rfl, PB9.out, QB9.out⟩, rfl⟩)
              case measure => simp [intOf]
          · as_aux_lemma =>
              have ct := PB8.out.k.cellAt (i := 19) (v := ((pB bd 1 3).map enc8).getD 19 undef) (by rw [List.getD_eq_getElem?_getD, List.getElem?_eq_getElem (by rw [pB_len bd (by omega) (by omega)]; decide)]; rfl)
              have cf := PB8.out.fro 19
              have PB9 := Lib.hid (PB8.out.set 19 (.int .u8 (88)))
              rw [(pB_s13 bd)] at PB9
              have QB9 := Lib.hid (QB8.out.setO (Nat.ne_of_lt NE.out) PB8.out.n 19 (.int .u8 (88)))
              clear PB8 QB8
              go_wp2
              go_roundw
              case rel => first | exact ⟨3 + 1, by omega, by rfl, PB9.out, QB9.out⟩ | ((repeat apply Exists.intro); exact ⟨⟨3 + 1, by omega, by rfl, PB9.out, QB9.out⟩, rfl⟩)
              case measure => simp [intOf]
          · clear q0
            go_wp2
            go_roundw
            case rel => first | exact ⟨2, by omega, by rfl, pB_14 bd ▸ PB8.out, QB8.out⟩ | ((repeat apply Exists.intro); exact ⟨⟨2, by omega, by rfl, pB_14 bd ▸ PB8.out, QB8.out⟩, rfl⟩)
            case measure => simp [intOf]
      · rw [pB_2] at PB7
        clear QB7
        have RP := Lib.hid (show Row wr enc8 (.slice (some ⟨np, 0, none⟩) 32 32) (trapP bd) from by
          have h := Row.of_blk (l := trapP bd) (enc := enc8) PB7.out.k
          rw [TL.out] at h
          exact h)
        have SM := Lib.hid (mksome_calls 1 0 (.slice (some ⟨np, 0, none⟩) 32 32) (.slice none 0 0) (trapP bd) [] wr RP.out (Row.nil _ _) T8.out (by simp) (by rw [TL.out]; decide) (by decide))
        go_upto_region 16 with (go_at_call 14; refine SM.out.mono ?_; rintro e w8 ⟨ma, mb, pa, pb, rfl, s8⟩; have S8 := Lib.hid s8; clear s8)
        have B8 := Lib.hid (PB7.out.bel.trans (S8.out.bel.mono PB7.out.bel.size))
        clear SM RP
        have hz := zero_val
        have HZL := Lib.hid zero_ok.len
        have hzs : zeroSe.cells.toArray.size = 26 := by simpa using HZL.out
        have hzn : ¬ zeroSe.cells.toArray = #[] := fun h => by rw [h] at hzs; simp at hzs
        have OK0 := Lib.hid (trapX_ok (r2 := 0) (by decide))
        have X0L := Lib.hid OK0.out.len
        have I0 := Lib.hid (info_se OK0.out)
        have X0O := Lib.hid (Se.one (trapX 0))
        have NS := Lib.hid (Own.newL B8.out zeroSe.cells (26 : Nat))
        go_upto_region 17 with ((with_reducible refine store_gate (26) (14) (57) ?_); refine wpList_store_mid rfl 26 (.tmp 14) (.tmp 57) rfl w8.heap.size 0 (trapX 0).cells.toArray rfl ?hv (NS.out.there ?s1) ?s2 ?s3 ?_)
        case hv =>
          show (_ : Value) = _
          kernel_rfl
        case s1 => have h1 := HZL.out; have h2 := X0L.out; simp; omega
        case s2 => simpa using I0.out
        case s3 => first | exact X0O.out | exact all_oneCell_toArray X0O.out
        have XS := Lib.hid (NS.out.setAll (trapX 0).cells (by rw [X0L.out, HZL.out]))
        have S9 := Lib.hid (S8.out.below (below_setCells ((Below.refl w8.heap.size w8).alloc (Nat.le_refl _) (.cells zeroSe.cells.toArray 26)) (Nat.le_refl _) 0 (trapX 0).cells))
        have AP := Lib.hid (S8.out.apt (Nat.le_refl _))
        have NF := Lib.hid (show ¬ (Mm.F ma pa w8.heap.size ∨ Mm.F mb pb w8.heap.size) from fun q => by rcases q with q | q; exact (S8.out.fresh (Nat.le_refl _)).1 q; exact (S8.out.fresh (Nat.le_refl _)).2 q)
        have H8 := Lib.hid (show wr.heap.size ≤ w8.heap.size from S8.out.bel.size)
        have H7 := Lib.hid PB7.out.bel.size
        clear NS S8 PB7 hzs hzn hz B8
        generalize World.setCells _ _ _ _ = w9 at *
        generalize w8.heap.size = ns at *
        have c2 := XS.out.cell (OK0.out.gr (i := 2) (by decide))
        have f2 := XS.out.fro 2
        have XR := Lib.hid (XS.out.set 2 (.int .u64 (r2 : Int)))
        rw [show (trapX 0).cells.set 2 (.int .u64 (r2 : Int)) = (trapX r2).cells from OK0.out.sr (i := 2) (by decide) r2] at XR
        have SR := Lib.hid (S9.out.setCO ns (by have := H8.out; omega) NF.out 2 (.int .u64 (r2 : Int)))
        go_upto_region 18 with (fail)
        generalize World.setCell _ _ _ = w10 at *
        clear c2 f2 XS S9 I0 X0L X0O OK0
        have P0 := Lib.hid (SR.out.pg0 (by have := H7.out; have := tab_lt HT.out; omega))
        have L0 : 0 < ns := by have := H8.out; have := H7.out; have := tab_lt HT.out; omega
        have ST := Lib.hid (step_calls (trapX r2) OKX.out XR.out.k SR.out.a AP.out 0 0 (by decide) (tab_below HT.out XR.out.bel) L0 P0.out)
        rw [HST.out] at ST
        have HX1 : exitA ((1 : Nat) : Int) ((1 : Nat) : Int) = #[.int .u8 1, .int .u64 1] := rfl
        go_upto_region 19 with (go_at_call 16; refine ST.out.mono ?_; rintro e w11 ⟨rfl, db, dm, dk⟩; rw [HX1])
        have Y11 := Lib.hid (show Own w ns (trapY r2 1 bd).cells 26 w11 from ⟨Keep.belowB XR.out.bel dk XR.out.bel.size (fun i hi q => by rcases q with q | q; have := XR.out.n; omega; have := SR.out.base (.inl q); have := H7.out; omega), XR.out.n, db⟩)
        have S11 := Lib.hid (SR.out.doA H8.out (fun q => NF.out (.inr q)) dm dk)
        have E12 := Lib.hid (Own.newL Y11.out.bel [.int .u8 1, .int .u64 1] 50)
        have Y12 := Lib.hid (Y11.out.alloc (.cells #[.int .u8 1, .int .u64 1] 50))
        have S12 := Lib.hid (S11.out.below ((Below.refl w11.heap.size w11).alloc (Nat.le_refl _) (.cells #[.int .u8 1, .int .u64 1] 50)))
        clear db dm dk XR SR ST Y11 S11 HX1
        generalize w11.alloc _ = w12 at *
        generalize w11.heap.size = nx at *
        have c2 := Y12.out.cell (i := 2) (v := .int .u64 (r2 : Int)) rfl
        have c16 := Y12.out.cell (i := 16) (v := .int .u64 16) rfl
        have c19 := Y12.out.cell (i := 19) (v := .int .u64 0) rfl
        have c20 := Y12.out.cell (i := 20) (v := .int .u64 1) rfl
        have c21 := Y12.out.cell (i := 21) (v := .int .u64 (bd : Int)) rfl
        have EX : ∀ W : World, (binOp .neq 50 (.agg #[.int .u8 1, .int .u64 1]) (.agg #[.int .u8 1, .int .u64 1])).run Tryd.prog W = .ok (.bool false) W := fun W => by kernel_rfl
        have hr20 : (r2 : Int) ≤ 18446744073709551615 := by have := R2.out; omega
        have hr21 : 0 ≤ (r2 : Int) := by omega
        go_upto_region 26 with ((with_reducible refine load_gate (50) (15) ?_); refine wpList_load_mid rfl 50 (.tmp 15) rfl nx 0 rfl [.int .u8 1, .int .u64 1] _ E12.out.all Tryd.underlying50 rfl size2x ?_)
        clear c2 c16 c19 c20 c21 EX E12
        have ST := Lib.hid (step_calls (trapY r2 1 bd) OKY.out Y12.out.k S12.out.a AP.out 0 0 (by decide) (tab_below HT.out Y12.out.bel) L0 P0.out)
        rw [BCK.out] at ST
        have HX1 : exitA ((0 : Nat) : Int) ((0 : Nat) : Int) = #[.int .u8 0, .int .u64 0] := rfl
        go_upto_region 27 with (go_at_call 16; refine ST.out.mono ?_; rintro e w13 ⟨rfl, db, dm, dk⟩; rw [HX1])
        have Z13 := Lib.hid (show Own w ns (trapZ r2 1 bd).cells 26 w13 from ⟨Keep.belowB Y12.out.bel dk Y12.out.bel.size (fun i hi q => by rcases q with q | q; have := Y12.out.n; omega; have := S12.out.base (.inl q); have := H7.out; omega), Y12.out.n, db⟩)
        have Z14 := Lib.hid (Z13.out.alloc (.cells #[.int .u8 0, .int .u64 0] 50))
        clear db dm dk ST HX1 Z13 Y12 S12
        generalize hw14 : w13.alloc _ = w14 at *
        have cE : w14.cell? ⟨w13.heap.size, 0, none⟩ = some (.int .u8 0) := by rw [← hw14]; exact (Blk.new w13 #[.int .u8 0, .int .u64 0] 50).cellAt rfl
        clear hw14
        have c16 := Z14.out.cell (i := 16) (v := .int .u64 0) rfl
        have c22 := Z14.out.cell (i := 22) (v := .bool true) rfl
        go_wp2
        go_ret
        exact ⟨rfl, Z14.out.bel⟩
  | false =>
    rw [if_neg (by simp)] at hct hbw
    obtain ⟨hwn, hbe⟩ := hbw
    have hwn' := hwn.symm
    subst hwn'
    subst hct
    rw [← hbe] at W1
    clear hbe
    go_enter Tryd.func9, Tryd.ntmps9
    go_upto_region 3 with (go_at_call 10; refine (awake_calls _ HT.out).mono ?_; rintro e w2 ⟨rfl, u⟩; have B2 := Lib.hid u; clear u)
    go_upto_region 6 with (go_at_call 13; refine (W1.out _).mono ?_; rintro e w3 ⟨rfl, u⟩; have B3 := Lib.hid (B2.out.trans (u.mono B2.out.size)); clear u)
    obtain ⟨w4, hm, hsz, hbk, hbl⟩ := make_bytes w3 32 (by decide)
    have hm0 : (Instr.makeSlice 28 (.int .i64 32) (.int .i64 32)).run Tryd.prog w3 = .ok (.slice (some ⟨w3.heap.size, 0, none⟩) 32 32) w4 := hm
    have PB4 := Lib.hid (show Own w w3.heap.size ((pB bd 0 0).map enc8) 5 w4 from ⟨B3.out.trans (hbl.mono B3.out.size), B3.out.size, by rw [pB_0]; exact hbk⟩)
    clear hm hsz hbk hbl
    go_upto_region 7 with (fail)
    clear hm0 W1 B3
    generalize w3.heap.size = np at *
    go_upto_region 8 with (go_at_call 13; refine (W2.out _).mono ?_; rintro e w5 ⟨rfl, u⟩; have PB5 := Lib.hid (PB4.out.step u); clear u)
    have QB6 := Lib.hid (Own.newL PB5.out.bel [.int .u32 (bd : Int), .int .u32 1476395008] 24)
    have PB6 := Lib.hid (PB5.out.alloc (.cells #[.int .u32 (bd : Int), .int .u32 1476395008] 24))
    have NE := Lib.hid (show np < w5.heap.size from PB5.out.lt)
    clear W2 PB4 PB5
    generalize w5.alloc _ = w6 at *
    generalize w5.heap.size = nq at *
    have hbd0 : 0 ≤ (bd : Int) := by omega
    have hbd1 : (bd : Int) ≤ 4294967295 := by have := HBD.out; omega
    go_upto_region 9 with (fail)
    go_loopw [10, 11] (fun iv kv wr => ∃ i : Nat, i ≤ 2 ∧ iv = .int .i64 i ∧ Own w np ((pB bd i 0).map enc8) 5 wr ∧ Own w nq [.int .u32 (bd : Int), .int .u32 1476395008] 24 wr) (fun iv _ _ => 2 - (intOf iv).toNat)
    case atStart => exact ⟨0, by omega, rfl, PB6.out, QB6.out⟩
    case round =>
      obtain ⟨i, hi, rfl, P, Q⟩ := hrel
      have PB7 := Lib.hid P
      have QB7 := Lib.hid Q
      clear P Q PB6 QB6
      rcases (show i = 0 ∨ i = 1 ∨ i = 2 by omega) with rfl | rfl | rfl
      · go_upto_region 12 with (fail)
        go_loopw [11] (fun kv wq => ∃ k : Nat, k ≤ 4 ∧ kv = .int .i64 k ∧ Own w np ((pB bd 0 k).map enc8) 5 wq ∧ Own w nq [.int .u32 (bd : Int), .int .u32 1476395008] 24 wq) (fun kv _ => 4 - (intOf kv).toNat)
        case atStart => exact ⟨0, by omega, rfl, PB7.out, QB7.out⟩
        case round =>
          obtain ⟨k, hk, rfl, P, Q⟩ := hrel
          have PB8 := Lib.hid P
          have QB8 := Lib.hid Q
          have q0 := Q.cell (i := 0) rfl
          clear P Q PB7 QB7
          rcases (show k = 0 ∨ k = 1 ∨ k = 2 ∨ k = 3 ∨ k = 4 by omega) with rfl | rfl | rfl | rfl | rfl
          · as_aux_lemma =>
              have ct := PB8.out.k.cellAt (i := 0) (v := ((pB bd 0 0).map enc8).getD 0 undef) (by rw [List.getD_eq_getElem?_getD, List.getElem?_eq_getElem (by rw [pB_len bd (by omega) (by omega)]; decide)]; rfl)
              have cf := PB8.out.fro 0
              have PB9 := Lib.hid (PB8.out.set 0 (.int .u8 ((bd : Int) % 256)))
              rw [(pB_s00 bd)] at PB9
              have QB9 := Lib.hid (QB8.out.setO (Nat.ne_of_lt NE.out) PB8.out.n 0 (.int .u8 ((bd : Int) % 256)))
              clear PB8 QB8
              go_wp2
              go_roundw
              case rel => first | exact ⟨0 + 1, by omega, by rfl, PB9.out, QB9.out⟩ | ((repeat apply Exists.intro); exact ⟨⟨0 + 1, by omega, by rfl, PB9.out, QB9.out⟩, rfl⟩)
              case measure => simp [intOf]
          · as_aux_lemma =>
              have ct := PB8.out.k.cellAt (i := 1) (v := ((pB bd 0 1).map enc8).getD 1 undef) (by rw [List.getD_eq_getElem?_getD, List.getElem?_eq_getElem (by rw [pB_len bd (by omega) (by omega)]; decide)]; rfl)
              have cf := PB8.out.fro 1
              have PB9 := Lib.hid (PB8.out.set 1 (.int .u8 ((bd : Int) / 256 % 256)))
              rw [(pB_s01 bd)] at PB9
              have QB9 := Lib.hid (QB8.out.setO (Nat.ne_of_lt NE.out) PB8.out.n 1 (.int .u8 ((bd : Int) / 256 % 256)))
              clear PB8 QB8
              go_wp2
              go_roundw
              case rel => first | exact ⟨1 + 1, by omega, by rfl, PB9.out, QB9.out⟩ | ((repeat apply Exists.intro); exact ⟨⟨1 + 1, by omega, by rfl, PB9.out, QB9.out⟩, rfl⟩)
              case measure => simp [intOf]
          · as_aux_lemma =>
              have ct := PB8.out.k.cellAt (i := 2) (v := ((pB bd 0 2).map enc8).getD 2 undef) (by rw [List.getD_eq_getElem?_getD, List.getElem?_eq_getElem (by rw [pB_len bd (by omega) (by omega)]; decide)]; rfl)
              have cf := PB8.out.fro 2
              have PB9 := Lib.hid (PB8.out.set 2 (.int .u8 ((bd : Int) / 65536 % 256)))
              rw [(pB_s02 bd)] at PB9
              have QB9 := Lib.hid (QB8.out.setO (Nat.ne_of_lt NE.out) PB8.out.n 2 (.int .u8 ((bd : Int) / 65536 % 256)))
              clear PB8 QB8
              go_wp2
              go_roundw
              case rel => first | exact ⟨2 + 1, by omega, by rfl, PB9.out, QB9.out⟩ | ((repeat apply Exists.intro); exact ⟨⟨2 + 1, by omega, by rfl, PB9.out, QB9.out⟩, rfl⟩)
              case measure => simp [intOf]
          · as_aux_lemma =>
              have ct := PB8.out.k.cellAt (i := 3) (v := ((pB bd 0 3).map enc8).getD 3 undef) (by rw [List.getD_eq_getElem?_getD, List.getElem?_eq_getElem (by rw [pB_len bd (by omega) (by omega)]; decide)]; rfl)
              have cf := PB8.out.fro 3
              have PB9 := Lib.hid (PB8.out.set 3 (.int .u8 ((bd : Int) / 16777216)))
              rw [(pB_s03 HBD.out)] at PB9
              have QB9 := Lib.hid (QB8.out.setO (Nat.ne_of_lt NE.out) PB8.out.n 3 (.int .u8 ((bd : Int) / 16777216)))
              clear PB8 QB8
              go_wp2
              go_roundw
              case rel => first | exact ⟨3 + 1, by omega, by rfl, PB9.out, QB9.out⟩ | ((repeat apply Exists.intro); exact ⟨⟨3 + 1, by omega, by rfl, PB9.out, QB9.out⟩, rfl⟩)
              case measure => simp [intOf]
          · clear q0
            go_wp2
            go_roundw
            case rel => first | exact ⟨1, by omega, by rfl, pB_04 bd ▸ PB8.out, QB8.out⟩ | ((repeat apply Exists.intro); exact ⟨⟨1, by omega, by rfl, pB_04 bd ▸ PB8.out, QB8.out⟩, rfl⟩)
            case measure => simp [intOf]
      · go_upto_region 12 with (fail)
        go_loopw [11] (fun kv wq => ∃ k : Nat, k ≤ 4 ∧ kv = .int .i64 k ∧ Own w np ((pB bd 1 k).map enc8) 5 wq ∧ Own w nq [.int .u32 (bd : Int), .int .u32 1476395008] 24 wq) (fun kv _ => 4 - (intOf kv).toNat)
        case atStart => exact ⟨0, by omega, rfl, PB7.out, QB7.out⟩
        case round =>
          obtain ⟨k, hk, rfl, P, Q⟩ := hrel
          have PB8 := Lib.hid P
          have QB8 := Lib.hid Q
          have q0 := Q.cell (i := 1) rfl
          clear P Q PB7 QB7
          rcases (show k = 0 ∨ k = 1 ∨ k = 2 ∨ k = 3 ∨ k = 4 by omega) with rfl | rfl | rfl | rfl | rfl
          · as_aux_lemma =>
              have ct := PB8.out.k.cellAt (i := 16) (v := ((pB bd 1 0).map enc8).getD 16 undef) (by rw [List.getD_eq_getElem?_getD, List.getElem?_eq_getElem (by rw [pB_len bd (by omega) (by omega)]; decide)]; rfl)
              have cf := PB8.out.fro 16
              have PB9 := Lib.hid (PB8.out.set 16 (.int .u8 (0)))
              rw [(pB_s10 bd)] at PB9
              have QB9 := Lib.hid (QB8.out.setO (Nat.ne_of_lt NE.out) PB8.out.n 16 (.int .u8 (0)))
              clear PB8 QB8
              go_wp2
              go_roundw
              case rel => first | exact ⟨0 + 1, by omega, by rfl, PB9.out, QB9.out⟩ | ((repeat apply Exists.intro); exact ⟨⟨0 + 1, by omega, by rfl, PB9.out, QB9.out⟩, rfl⟩)
              case measure => simp [intOf]
          · as_aux_lemma =>
              have ct := PB8.out.k.cellAt (i := 17) (v := ((pB bd 1 1).map enc8).getD 17 undef) (by rw [List.getD_eq_getElem?_getD, List.getElem?_eq_getElem (by rw [pB_len bd (by omega) (by omega)]; decide)]; rfl)
              have cf := PB8.out.fro 17
              have PB9 := Lib.hid (PB8.out.set 17 (.int .u8 (0)))
              rw [(pB_s11 bd)] at PB9
              have QB9 := Lib.hid (QB8.out.setO (Nat.ne_of_lt NE.out) PB8.out.n 17 (.int .u8 (0)))
              clear PB8 QB8
              go_wp2
              go_roundw
              case rel => first | exact ⟨1 + 1, by omega, by rfl, PB9.out, QB9.out⟩ | ((repeat apply Exists.intro); exact ⟨⟨1 + 1, by omega, by rfl, PB9.out, QB9.out⟩, rfl⟩)
              case measure => simp [intOf]
          · as_aux_lemma =>
              have ct := PB8.out.k.cellAt (i := 18) (v := ((pB bd 1 2).map enc8).getD 18 undef) (by rw [List.getD_eq_getElem?_getD, List.getElem?_eq_getElem (by rw [pB_len bd (by omega) (by omega)]; decide)]; rfl)
              have cf := PB8.out.fro 18
              have PB9 := Lib.hid (PB8.out.set 18 (.int .u8 (0)))
              rw [(pB_s12 bd)] at PB9
              have QB9 := Lib.hid (QB8.out.setO (Nat.ne_of_lt NE.out) PB8.out.n 18 (.int .u8 (0)))
              clear PB8 QB8
              go_wp2
              go_roundw
              case rel => first | exact ⟨2 + 1, by omega, by rfl, PB9.out, QB9.out⟩ | ((repeat apply Exists.intro); exact ⟨⟨2 + 1, by omega, by rfl, PB9.out, QB9.out⟩, rfl⟩)
              case measure => simp [intOf]
          · as_aux_lemma =>
              have ct := PB8.out.k.cellAt (i := 19) (v := ((pB bd 1 3).map enc8).getD 19 undef) (by rw [List.getD_eq_getElem?_getD, List.getElem?_eq_getElem (by rw [pB_len bd (by omega) (by omega)]; decide)]; rfl)
              have cf := PB8.out.fro 19
              have PB9 := Lib.hid (PB8.out.set 19 (.int .u8 (88)))
              rw [(pB_s13 bd)] at PB9
              have QB9 := Lib.hid (QB8.out.setO (Nat.ne_of_lt NE.out) PB8.out.n 19 (.int .u8 (88)))
              clear PB8 QB8
              go_wp2
              go_roundw
              case rel => first | exact ⟨3 + 1, by omega, by rfl, PB9.out, QB9.out⟩ | ((repeat apply Exists.intro); exact ⟨⟨3 + 1, by omega, by rfl, PB9.out, QB9.out⟩, rfl⟩)
              case measure => simp [intOf]
          · clear q0
            go_wp2
            go_roundw
            case rel => first | exact ⟨2, by omega, by rfl, pB_14 bd ▸ PB8.out, QB8.out⟩ | ((repeat apply Exists.intro); exact ⟨⟨2, by omega, by rfl, pB_14 bd ▸ PB8.out, QB8.out⟩, rfl⟩)
            case measure => simp [intOf]
      · rw [pB_2] at PB7
        clear QB7
        have RP := Lib.hid (show Row wr enc8 (.slice (some ⟨np, 0, none⟩) 32 32) (trapP bd) from by
          have h := Row.of_blk (l := trapP bd) (enc := enc8) PB7.out.k
          rw [TL.out] at h
          exact h)
        have SM := Lib.hid (mksome_calls 1 0 (.slice (some ⟨np, 0, none⟩) 32 32) (.slice none 0 0) (trapP bd) [] wr RP.out (Row.nil _ _) T8.out (by simp) (by rw [TL.out]; decide) (by decide))
        go_upto_region 16 with (go_at_call 14; refine SM.out.mono ?_; rintro e w8 ⟨ma, mb, pa, pb, rfl, s8⟩; have S8 := Lib.hid s8; clear s8)
        have B8 := Lib.hid (PB7.out.bel.trans (S8.out.bel.mono PB7.out.bel.size))
        clear SM RP
        have hz := zero_val
        have HZL := Lib.hid zero_ok.len
        have hzs : zeroSe.cells.toArray.size = 26 := by simpa using HZL.out
        have hzn : ¬ zeroSe.cells.toArray = #[] := fun h => by rw [h] at hzs; simp at hzs
        have OK0 := Lib.hid (trapX_ok (r2 := 0) (by decide))
        have X0L := Lib.hid OK0.out.len
        have I0 := Lib.hid (info_se OK0.out)
        have X0O := Lib.hid (Se.one (trapX 0))
        have NS := Lib.hid (Own.newL B8.out zeroSe.cells (26 : Nat))
        go_upto_region 17 with ((with_reducible refine store_gate (26) (14) (57) ?_); refine wpList_store_mid rfl 26 (.tmp 14) (.tmp 57) rfl w8.heap.size 0 (trapX 0).cells.toArray rfl ?hv (NS.out.there ?s1) ?s2 ?s3 ?_)
        case hv =>
          show (_ : Value) = _
          kernel_rfl
        case s1 => have h1 := HZL.out; have h2 := X0L.out; simp; omega
        case s2 => simpa using I0.out
        case s3 => first | exact X0O.out | exact all_oneCell_toArray X0O.out
        have XS := Lib.hid (NS.out.setAll (trapX 0).cells (by rw [X0L.out, HZL.out]))
        have S9 := Lib.hid (S8.out.below (below_setCells ((Below.refl w8.heap.size w8).alloc (Nat.le_refl _) (.cells zeroSe.cells.toArray 26)) (Nat.le_refl _) 0 (trapX 0).cells))
        have AP := Lib.hid (S8.out.apt (Nat.le_refl _))
        have NF := Lib.hid (show ¬ (Mm.F ma pa w8.heap.size ∨ Mm.F mb pb w8.heap.size) from fun q => by rcases q with q | q; exact (S8.out.fresh (Nat.le_refl _)).1 q; exact (S8.out.fresh (Nat.le_refl _)).2 q)
        have H8 := Lib.hid (show wr.heap.size ≤ w8.heap.size from S8.out.bel.size)
        have H7 := Lib.hid PB7.out.bel.size
        clear NS S8 PB7 hzs hzn hz B8
        generalize World.setCells _ _ _ _ = w9 at *
        generalize w8.heap.size = ns at *
        have c2 := XS.out.cell (OK0.out.gr (i := 2) (by decide))
        have f2 := XS.out.fro 2
        have XR := Lib.hid (XS.out.set 2 (.int .u64 (r2 : Int)))
        rw [show (trapX 0).cells.set 2 (.int .u64 (r2 : Int)) = (trapX r2).cells from OK0.out.sr (i := 2) (by decide) r2] at XR
        have SR := Lib.hid (S9.out.setCO ns (by have := H8.out; omega) NF.out 2 (.int .u64 (r2 : Int)))
        go_upto_region 18 with (fail)
        generalize World.setCell _ _ _ = w10 at *
        clear c2 f2 XS S9 I0 X0L X0O OK0
        have P0 := Lib.hid (SR.out.pg0 (by have := H7.out; have := tab_lt HT.out; omega))
        have L0 : 0 < ns := by have := H8.out; have := H7.out; have := tab_lt HT.out; omega
        have ST := Lib.hid (step_calls (trapX r2) OKX.out XR.out.k SR.out.a AP.out 0 0 (by decide) (tab_below HT.out XR.out.bel) L0 P0.out)
        rw [HST.out] at ST
        have HX1 : exitA ((1 : Nat) : Int) ((3 : Nat) : Int) = #[.int .u8 1, .int .u64 3] := rfl
        go_upto_region 19 with (go_at_call 16; refine ST.out.mono ?_; rintro e w11 ⟨rfl, db, dm, dk⟩; rw [HX1])
        have Y11 := Lib.hid (show Own w ns (trapY r2 3 r2).cells 26 w11 from ⟨Keep.belowB XR.out.bel dk XR.out.bel.size (fun i hi q => by rcases q with q | q; have := XR.out.n; omega; have := SR.out.base (.inl q); have := H7.out; omega), XR.out.n, db⟩)
        have S11 := Lib.hid (SR.out.doA H8.out (fun q => NF.out (.inr q)) dm dk)
        have E12 := Lib.hid (Own.newL Y11.out.bel [.int .u8 1, .int .u64 3] 50)
        have Y12 := Lib.hid (Y11.out.alloc (.cells #[.int .u8 1, .int .u64 3] 50))
        have S12 := Lib.hid (S11.out.below ((Below.refl w11.heap.size w11).alloc (Nat.le_refl _) (.cells #[.int .u8 1, .int .u64 3] 50)))
        clear db dm dk XR SR ST Y11 S11 HX1
        generalize w11.alloc _ = w12 at *
        generalize w11.heap.size = nx at *
        have c2 := Y12.out.cell (i := 2) (v := .int .u64 (r2 : Int)) rfl
        have c16 := Y12.out.cell (i := 16) (v := .int .u64 16) rfl
        have c19 := Y12.out.cell (i := 19) (v := .int .u64 0) rfl
        have c20 := Y12.out.cell (i := 20) (v := .int .u64 3) rfl
        have c21 := Y12.out.cell (i := 21) (v := .int .u64 (r2 : Int)) rfl
        have EX : ∀ W : World, (binOp .neq 50 (.agg #[.int .u8 1, .int .u64 3]) (.agg #[.int .u8 1, .int .u64 3])).run Tryd.prog W = .ok (.bool false) W := fun W => by kernel_rfl
        have hr20 : (r2 : Int) ≤ 18446744073709551615 := by have := R2.out; omega
        have hr21 : 0 ≤ (r2 : Int) := by omega
        go_upto_region 26 with ((with_reducible refine load_gate (50) (15) ?_); refine wpList_load_mid rfl 50 (.tmp 15) rfl nx 0 rfl [.int .u8 1, .int .u64 3] _ E12.out.all Tryd.underlying50 rfl size2x ?_)
        clear c2 c16 c19 c20 c21 EX E12
        have ST := Lib.hid (step_calls (trapY r2 3 r2) OKY.out Y12.out.k S12.out.a AP.out 0 0 (by decide) (tab_below HT.out Y12.out.bel) L0 P0.out)
        rw [BCK.out] at ST
        have HX1 : exitA ((0 : Nat) : Int) ((0 : Nat) : Int) = #[.int .u8 0, .int .u64 0] := rfl
        go_upto_region 27 with (go_at_call 16; refine ST.out.mono ?_; rintro e w13 ⟨rfl, db, dm, dk⟩; rw [HX1])
        have Z13 := Lib.hid (show Own w ns (trapZ r2 3 r2).cells 26 w13 from ⟨Keep.belowB Y12.out.bel dk Y12.out.bel.size (fun i hi q => by rcases q with q | q; have := Y12.out.n; omega; have := S12.out.base (.inl q); have := H7.out; omega), Y12.out.n, db⟩)
        have Z14 := Lib.hid (Z13.out.alloc (.cells #[.int .u8 0, .int .u64 0] 50))
        clear db dm dk ST HX1 Z13 Y12 S12
        generalize hw14 : w13.alloc _ = w14 at *
        have cE : w14.cell? ⟨w13.heap.size, 0, none⟩ = some (.int .u8 0) := by rw [← hw14]; exact (Blk.new w13 #[.int .u8 0, .int .u64 0] 50).cellAt rfl
        clear hw14
        have c16 := Z14.out.cell (i := 16) (v := .int .u64 0) rfl
        have c22 := Z14.out.cell (i := 22) (v := .bool true) rfl
        go_wp2
        go_ret
        exact ⟨rfl, Z14.out.bel⟩
end Go.Proofs.YtjlodddlbgpcdaaDoor.Walks
