/- Walks through the functions of the statement, and the statement over them: each contract says what the call answers and that nothing else changes. -/
import Derived.Test.YtigeadiclajkjaaProg
import Derived.Laws.BytesString
import Derived.Test.YtigeadiclajkjaaBits
import Derived.Test.YtigeadiclajkjaaHeap
import Derived.Test.YtigeadiclajkjaaAid
import Derived.Lib.Hide
import Derived.Test.YtigeadiclajkjaaArr
import Derived.Test.YtigeadiclajkjaaEql
import Derived.Test.YtigeadiclajkjaaWalkHeap
import Derived.Test.YtigeadiclajkjaaWalkHeap2
import Derived.Test.YtigeadiclajkjaaWalkPool
import Derived.Test.YtigeadiclajkjaaWalkNew
import Derived.Test.YtigeadiclajkjaaWalkLp
import Derived.Test.YtigeadiclajkjaaWalkSome
import Derived.Test.YtigeadiclajkjaaWalkTwin
import Derived.Test.YtigeadiclajkjaaWalkRuns
import Derived.Test.YtigeadiclajkjaaWalkLb
import Derived.WalkKit
import Derived.WalkSpells
import Derived.WalkLawsBesides
import Derived.Deep.QuietTactic
import Derived.BigQuiet
import Derived.Deep.RegionHeld3
import Derived.Deep.DeepCutAuto
import Derived.Deep.CutBlock
import Derived.Lib.SlBytesConst
import Derived.StillTailTactics
import Derived.Laws.MakeOwn
import Derived.Deep.AppendLies
import Derived.Laws.CopyOwn
import Derived.Maps.AppendAt
import Derived.Deep.Upon
import Derived.Deep.AppendSrc
import Derived.RegionTactic
import Derived.Deep.RegionLaw
import Derived.Shelf.Abstract
namespace Go.Proofs.Ytigeadiclajkjaa.Walks
set_option linter.unusedVariables false
set_option linter.unusedSimpArgs false
open Go.RowKit Go.Proofs.Ytigeadiclajkjaa.Bits Go.Proofs.Ytigeadiclajkjaa.Heap Go.Proofs.Ytigeadiclajkjaa.Aid Go.Proofs.Ytigeadiclajkjaa.Arr Go.Proofs.Ytigeadiclajkjaa.Eql

/-- A slice of elements of several cells, in whatever later world. -/
theorem rowS_of {w : World} {e : Sh} {v : Value} (h : Fits w (.slice e) [v]) (h0 : 0 < e.size) : ∃ (a : Option Addr) (cap : Nat) (segs : List (List Value)), v = .slice a segs.length cap ∧ segs.length ≤ cap ∧ cap ≤ maxLen ∧ (∀ s ∈ segs, Fits w e s) ∧
    ∀ (i : Nat) (s : List Value), segs[i]? = some s → ∃ b off, a = some ⟨b, off, none⟩ ∧ ∀ wx, Below w.heap.size w wx → wx.rangeAt b (off + i * e.size) s := by
  rcases h with h | ⟨a, len, cap, segs, h1, hl, hm, h2, h3, h4⟩
  · simp only [List.cons.injEq, and_true] at h
    exact ⟨none, 0, [], h, Nat.le_refl _, Nat.zero_le _, (fun s hs => by cases hs), (fun i s hs => by simp at hs)⟩
  · simp only [List.cons.injEq, and_true] at h1
    refine ⟨some a, cap, segs, by rw [h1, h2], by omega, hm, h4, fun i s hs => ?_⟩
    have hlt : i < segs.length := by
      rcases Nat.lt_or_ge i segs.length with h | h
      · exact h
      · rw [List.getElem?_eq_none h] at hs; cases hs
    have hx : segs[0]? = some segs[0] := List.getElem?_eq_getElem (by omega)
    obtain ⟨_, hn0, hc0⟩ := World.cells?_some (h3 0 _ hx)
    have hspot : a.spot = none := by
      have h5 := hc0 0 h0
      rw [Nat.zero_mul] at h5
      have h6 : w.cell? a = segs[0][0]? := h5
      rw [List.getElem?_eq_getElem (by omega)] at h6
      unfold World.cell? at h6
      split at h6
      · split at h6
        · cases h6
        · rename_i hsp
          cases hq : a.spot with
          | none => rfl
          | some q => rw [hq] at hsp; simp at hsp
      · cases h6
    obtain ⟨b, off, sp⟩ := a
    simp only at hspot
    subst hspot
    refine ⟨b, off, rfl, fun wx hb j u hu => ?_⟩
    obtain ⟨_, hn, hc⟩ := World.cells?_some (h3 i s hs)
    have hj : j < e.size := by
      rw [← hn]
      rcases Nat.lt_or_ge j s.length with h | h
      · exact h
      · rw [List.getElem?_eq_none h] at hu; cases hu
    have h7 := hc j hj
    have ea : ((⟨b, off, none⟩ : Addr).add (i * e.size)).add j = ⟨b, off + i * e.size + j, none⟩ := by
      unfold Addr.add
      by_cases h8 : i * e.size = 0
      · rw [if_pos h8]
        by_cases h9 : j = 0
        · rw [if_pos h9, h8, h9]; rfl
        · rw [if_neg h9, h8]; rfl
      · rw [if_neg h8]
        by_cases h9 : j = 0
        · rw [if_pos h9, h9]; rfl
        · rw [if_neg h9]
    rw [ea, hu] at h7
    rw [hb.cell (World.block_lt_of_cell? w _ h7), h7]
theorem wf_i64_mk {a : Int} (h : -9223372036854775808 ≤ a ∧ a ≤ 9223372036854775807) : (Lit.int .i64 a).wf = true := by
  simp [Lit.wf, IntKind.min, IntKind.max, IntKind.signed, IntKind.bits]; omega
theorem made_bools (n : Nat) : (madeCells (Value.bool false).cells (n * 1)).toList = (List.replicate n false).map Value.bool := by
  apply List.ext_getElem?
  intro k
  by_cases hk : k < n
  · rw [List.getElem?_map, List.getElem?_replicate, if_pos hk]
    unfold madeCells
    simp [hk, Value.cells, Nat.mod_one]
  · rw [List.getElem?_eq_none (by unfold madeCells; simp; omega), List.getElem?_eq_none (by simp; omega)]
theorem make_bools (w : World) (c : Nat) (hc : c ≤ 1000) : ∃ o, (Instr.makeSlice 39 (.int .i64 (c : Int)) (.int .i64 (c : Int))).run Try.prog w = .ok (.slice (some ⟨w.heap.size, 0, none⟩) c c) (w.alloc o) ∧
    Blk (w.alloc o) w.heap.size ((List.replicate c false).map Value.bool) 4 := by
  obtain ⟨i, hi, hz, hs, hb⟩ := bool_info
  have h := run_makeSlice (P := Try.prog) w 39 4 i _ Try.underlying39 hi hz .i64 .i64 (c : Int) (c : Int) (by omega) (by omega) (by rw [hs, Int.toNat_natCast]; omega) (by rw [hb]; omega) (by omega)
  rw [hs] at h
  simp only [Int.toNat_natCast] at h
  refine ⟨_, h, ?_⟩
  have b := Blk.new w (madeCells (Value.bool false).cells (c * 1)) 4
  rw [made_bools] at b
  exact b
def actSh : Sh := .seq (.int .u8) (.seq (.int .i64) .nil)
theorem act_of_fits {w : World} {cs : List Value} (h : Fits w actSh cs) : ∃ (x : Nat) (n : Int), cs = [.int .u8 (x : Int), .int .i64 n] ∧ x < 256 ∧ -9223372036854775808 ≤ n ∧ n ≤ 9223372036854775807 := by
  obtain ⟨_, _, rfl, ⟨a, rfl, wa⟩, _, _, rfl, ⟨b, rfl, wb⟩, h9⟩ := h
  simp only [Fits] at h9
  subst h9
  obtain ⟨n, rfl, hn⟩ := wf_u8 wa
  exact ⟨n, b, rfl, hn, (wf_i64 wb).1, (wf_i64 wb).2⟩
/-- The free ones among the first n. -/
def frB (us : List Bool) (n : Nat) : List Nat := (List.range n).filter fun i => !us.getD i true
theorem frB_all (us : List Bool) : frB us us.length = fr us := rfl
theorem frB_free {us : List Bool} {n : Nat} (h : us[n]? = some false) : frB us (n + 1) = frB us n ++ [n] := by
  unfold frB
  rw [List.range_succ, List.filter_append]
  simp [List.getD_eq_getElem?_getD, h]
theorem frB_used {us : List Bool} {n : Nat} (h : us[n]? = some true) : frB us (n + 1) = frB us n := by
  unfold frB
  rw [List.range_succ, List.filter_append]
  simp [List.getD_eq_getElem?_getD, h]
theorem frB_le (us : List Bool) (n : Nat) : (frB us n).length ≤ n := by
  have := List.length_filter_le (fun i => !us.getD i true) (List.range n)
  rw [List.length_range] at this
  exact this
/-- A row of the statement's own that has grown, beside the pool. -/
theorem lb_grow {w0 wx W w5 : World} {p b : Nat} {us : List Bool} {left : Int} {wv v5 : Value} {e : TypeId} {B n : Nat} {xs cs : List Value} {t : TypeId} (s : LB w0 p us left (fun i => i = b ∨ wv.ownBlock = some i) wx) (hb : Below wx.heap.size wx W) (k : Blk wx b cs t) (hn : wv.ownBlock ≠ some b) (hown : w5.ownsRow B e 1 v5 n xs) (hgrow : W.grownBy w5 wv.ownBlock) (hat : v5.ownBlock = wv.ownBlock ∨ v5.ownBlock = some W.heap.size) :
    LB w0 p us left (fun i => i = b ∨ v5.ownBlock = some i) w5 ∧ Blk w5 b cs t ∧ v5.ownBlock ≠ some b := by
  have sW := s.below hb
  have kW := k.below hb k.lt
  refine ⟨?_, kW.keep (keep_grown hgrow) hn, ?_⟩
  · rcases hat with h | h
    · rw [h]
      exact sW.other (keep_grown hgrow) (fun i h => .inl (.inr h))
    · have := (World.ownsRow.lt hown _ h).2
      refine (sW.add (g := W.heap.size) (keep_grown hgrow) (fun i h => .inl (.inr h)) (Nat.le_refl _) this).sub (fun i hi => ?_)
      rcases hi with hi | hi
      · exact .inr (.inl hi)
      · rw [h] at hi; injection hi with hi; exact .inl hi.symm
  · rcases hat with h | h
    · rw [h]; exact hn
    · rw [h]; intro e; injection e with e
      have := kW.lt
      omega
/-- The pool and the list of truths, one behind the other. -/
def PS (w0 : World) (p b : Nat) (us : List Bool) (left : Int) (w : World) : Prop := LB w0 p us left (fun i => i = b) w ∧ Blk w b (us.map Value.bool) 4
theorem LP.giveArg {w0 w : World} {p : Nat} {us : List Bool} {left : Int} (s : LP w0 p us left w) (x : Int) (hx : x < 0 ∨ (us.length : Int) ≤ x) :
    Calls Try.prog 13 #[.pointer (some ⟨p, 0, none⟩), .int .i64 x] w fun e w' => e = .returned (.int .i64 1) ∧ w' = w := by
  obtain ⟨F, a, b⟩ := s
  exact give_arg a x hx
set_option maxRecDepth 16000 in
set_option maxHeartbeats 16000000 in
theorem poolPlays_walk (a0 : Int) (v1 : Value) (w : World) (w0 : (Lit.int .u8 a0).wf = true) (f1 : Aid.Fits w (.slice actSh) [v1]) :
    Calls Try.prog 6 #[.int .u8 a0, v1] w fun e w' => e = .returned (.bool true) ∧ Below w.heap.size w w' := by
  obtain ⟨n, rfl, hn⟩ := wf_u8 w0
  obtain ⟨av, cp, segs, rfl, hcap, hmx, hfit, hat⟩ := rowS_of f1 (by decide)
  have AW := Lib.hid (fun W => awake_calls W)
  have hl0 : segs.length ≤ 9223372036854775807 := by unfold maxLen at hmx; omega
  clear w0 f1 hmx hcap
  have HF := Lib.hid hfit
  have HA := Lib.hid hat
  clear hfit hat
  by_cases h60 : segs.length ≤ 60
  · have hli : (segs.length : Int) ≤ 60 := by omega
    obtain ⟨k, hk⟩ : ∃ k, n % 20 = k := ⟨_, rfl⟩
    have hki : (n : Int) % 20 = (k : Int) := by omega
    have hk20 : k ≤ 19 := by omega
    have hkj : (k : Int) ≤ 19 := by omega
    have hn0 : 0 ≤ (n : Int) := by omega
    have hn1 : (n : Int) ≤ 255 := by omega
    clear hk hn hl0
    generalize (n : Int) = ni at *
    have NW := Lib.hid (fun W (b : Below w.heap.size w W) => LP.new (w0 := w) (k : Int) k (by omega) b)
    have MK := Lib.hid (fun W => make_bools W k (by omega))
    obtain ⟨ii, hii, hz, hs, hb⟩ := int_info
    have HI := Lib.hid hii
    have HZ := Lib.hid hz
    have HSz := Lib.hid hs
    have HBy := Lib.hid hb
    clear hii hz hs hb
    go_enter Try.func6, Try.ntmps6
    go_upto_region 4 with (go_at_call 8; refine (AW.out _).mono ?_; rintro e w1 ⟨rfl, b1⟩; have N1 := Lib.hid (NW.out _ b1); clear b1)
    clear AW NW
    go_upto_region 5 with (go_at_call 9; refine N1.out.mono ?_; rintro e w2 ⟨p, rfl, h⟩; have H2 := Lib.hid h; clear h)
    clear N1
    obtain ⟨o, hm, hb2⟩ := MK.out w2
    have H3 := Lib.hid (H2.out.lb.alloc o)
    have K3 := Lib.hid hb2
    clear H2 hb2 MK
    go_upto_region 8 with (fail)
    generalize hb : w2.heap.size = b at *
    have P3 := Lib.hid (show PS w p b (List.replicate k false) (-1) (w2.alloc o) from ⟨H3.out.sub (fun i hi => .inl hi), K3.out⟩)
    clear H3 K3 hm
    have HL3 : Hid ((List.replicate k false).length = k) := by show _ = _; simp
    generalize List.replicate k false = us3 at *
    go_loopw [8, 9] (fun fv vi wr => ∃ (i : Nat) (us : List Bool) (left : Int), i ≤ segs.length ∧ vi = .int .i64 i ∧ fv = .int .i64 left ∧ us.length = k ∧ -1 ≤ left ∧ left ≤ 7 ∧ PS w p b us left wr) (fun _ vi _ => segs.length - (intOf vi).toNat)
    case atStart => exact ⟨0, us3, -1, Nat.zero_le _, rfl, rfl, HL3.out, by decide, by decide, P3.out⟩
    case round =>
      clear P3 HL3
      obtain ⟨i, us, left, hi, rfl, rfl, hu, hf0, hf1, h⟩ := hrel
      have HP := Lib.hid h
      have HU := Lib.hid hu
      clear h hu
      by_cases hlt : i < segs.length
      · have hlti : (i : Int) < (segs.length : Int) := by omega
        obtain ⟨b5, o5, rfl, hrow⟩ := HA.out i _ (List.getElem?_eq_getElem hlt)
        obtain ⟨x, xn, hxs, hx, hxn0, hxn1⟩ := act_of_fits (HF.out segs[i] (List.getElem_mem hlt))
        rw [hxs] at hrow
        have RG := Lib.hid hrow
        clear hrow hxs
        have FU := Lib.hid (show frB us k = fr us by rw [← HU.out, frB_all])
        go_upto_region 13 with (fail)
        go_loopw [10, 11, 12] (fun wv fv vj wx => ∃ (j : Nat), j ≤ k ∧ vj = .int .i64 j ∧ fv = .int .i64 ((frB us j).length : Int) ∧ LB w p us left (fun i => i = b ∨ wv.ownBlock = some i) wx ∧ Blk wx b (us.map Value.bool) 4 ∧ RowI w.heap.size wv (frB us j) wx ∧ wv.ownBlock ≠ some b) (fun _ _ vj _ => k - (intOf vj).toNat)
        case atStart => exact ⟨0, Nat.zero_le _, rfl, rfl, HP.out.1.sub (fun i hi => hi.elim id (fun h => by cases h)), HP.out.2, World.ownsRow_nil _ _ _ _, fun h => by cases h⟩
        case round =>
          clear HP
          obtain ⟨j, hj, rfl, rfl, h1, h2, h3, h4⟩ := hrel
          have H6 := Lib.hid h1
          have K6 := Lib.hid h2
          have R6 := Lib.hid h3
          have D6 := Lib.hid h4
          clear h1 h2 h3 h4
          have hfl : (frB us j).length ≤ 19 := Nat.le_trans (frB_le us j) (by omega)
          have hfi : ((frB us j).length : Int) ≤ 19 := by omega
          by_cases hjk : j < k
          · have hjki : (j : Int) < (k : Int) := by omega
            have hju : j < us.length := by rw [HU.out]; exact hjk
            cases hu : us[j] with
            | true =>
              as_aux_lemma =>
              have hux : us[j]? = some true := by rw [List.getElem?_eq_getElem hju, hu]
              have ch : wr.cell? ⟨b, j, none⟩ = some (.bool true) := K6.out.cellAt (by rw [List.getElem?_map, hux]; rfl)
              have E := Lib.hid (frB_used hux)
              clear hux hu hju
              go_wp2
              all_goals exact ⟨⟨j + 1, by omega, by go_num, by rw [E.out], H6.out, K6.out, by rw [E.out]; exact R6.out, D6.out⟩, by simp only [intOf]; omega⟩
            | false =>
              as_aux_lemma =>
              have hux : us[j]? = some false := by rw [List.getElem?_eq_getElem hju, hu]
              have ch : wr.cell? ⟨b, j, none⟩ = some (.bool false) := K6.out.cellAt (by rw [List.getElem?_map, hux]; rfl)
              have E := Lib.hid (frB_free hux)
              have EL := Lib.hid (show (frB us (j + 1)).length = (frB us j).length + 1 by rw [E.out]; simp)
              clear hux hu hju
              have OA := Lib.hid (one_rowI wr j)
              have RA := Lib.hid (sl_below R6.out (one_rowI wr j).1)
              have HBS := Lib.hid (Nat.le_trans H6.out.bel.size (one_rowI wr j).1.size)
              obtain ⟨ra, rc, hv⟩ := own_form R6.out
              subst hv
              generalize hfn : (frB us j).length = fnn at *
              go_upto_region 17 with (at_builtin; refine wpList_append_row encI_one (by rfl) _ _ _ (by rfl) w.heap.size 3 ii _ 8 Try.underlying31 HI.out HZ.out HSz.out HBy.out (by rfl) _ fnn _ (by rfl) RA.out _ [j] (by rfl) OA.out.2 (by simp; unfold maxLen; omega) (by simp; omega) HBS.out ?_; intro v5 w5 hown hgrow hat; have FF := Lib.hid (lb_grow H6.out OA.out.1 K6.out D6.out hown hgrow hat); have RR := Lib.hid hown; clear hown hgrow hat)
              go_wp2
              all_goals
                rw [List.length_singleton, ← EL.out, show List.map encI (frB us j) ++ List.map encI [j] = List.map encI (frB us (j + 1)) by rw [E.out, List.map_append]] at RR
                exact ⟨⟨j + 1, by omega, by go_num, by rw [EL.out]; go_num, FF.out.1, FF.out.2.1, RR.out, FF.out.2.2⟩, by simp only [intOf]; omega⟩
          · have e : k = j := by omega
            subst e
            rw [FU.out] at R6 hfl hfi ⊢
            obtain ⟨ra, rc, hv⟩ := own_form R6.out
            subst hv
            have c0 : wr.cell? ⟨b5, o5 + i * 2, none⟩ = some (.int .u8 (x : Int)) := RG.out _ H6.out.bel 0 _ rfl
            have c1 : wr.cell? ⟨b5, o5 + i * 2 + 1, none⟩ = some (.int .i64 xn) := RG.out _ H6.out.bel 1 _ rfl
            obtain ⟨kk, hkk⟩ : ∃ kk, x % 6 = kk := ⟨_, rfl⟩
            have hx6 : (x : Int) % 6 = (kk : Int) := by omega
            have hk6 : kk < 6 := by omega
            have hx0 : 0 ≤ (x : Int) := by omega
            have hx1 : (x : Int) ≤ 255 := by omega
            clear hkk hx RG HF HA
            generalize (x : Int) = xi at *
            go_upto_block 4 with (fail)
            clear c0
            go_cut [8, 66] (fun fv _ wx => ∃ us' left', fv = .int .i64 left' ∧ us'.length = k ∧ -1 ≤ left' ∧ left' ≤ 7 ∧ PS w p b us' left' wx)
            case first =>
              as_aux_lemma =>
              go_upto_if 78 with (fail)
              go_cut [78, 66] (fun s t wx => s = .bool (decide (kk ≤ 1)) ∧ (t = .int .u8 (kk : Int) ∨ t = .int .u8 (xi % 6)) ∧ wr = wx)
              case first =>
                as_aux_lemma =>
                rcases (show kk = 0 ∨ kk = 1 ∨ 2 ≤ kk by omega) with rfl | rfl | h
                · go_wp2
                  go_meet
                  exact ⟨rfl, by first | exact .inl rfl | exact .inr rfl, rfl⟩
                · go_wp2
                  go_meet
                  exact ⟨rfl, by first | exact .inl rfl | exact .inr rfl, rfl⟩
                · have hq0 : ((kk : Int) == 0) = false := by simp; omega
                  have hq1 : ((kk : Int) == 1) = false := by simp; omega
                  go_wp2
                  go_meet
                  exact ⟨by rw [decide_eq_false (by omega)], by first | exact .inl rfl | exact .inr rfl, rfl⟩
              obtain ⟨rfl, ht, rfl⟩ := hcut
              rw [hx6, or_self] at ht
              subst ht
              by_cases h1 : kk ≤ 1
              rw [decide_eq_true h1]
              · as_aux_lemma =>
                by_cases hbad : left = 0 ∨ fr us = []
                · have T := Lib.hid (H6.out.lp.takeBad hbad)
                  have ED : Hid (PS w p b us left wr) := ⟨H6.out.sub (fun i h => .inl h), K6.out⟩
                  have hb2 : left = 0 ∨ ((fr us).length : Int) = 0 := by
                    rcases hbad with h | h
                    · exact .inl h
                    · right; rw [h]; rfl
                  have hL0 : 0 ≤ ((fr us).length : Int) := by omega
                  clear hbad H6 K6 R6 D6 c1
                  generalize hfl2 : (fr us).length = L at *
                  generalize hLL : (L : Int) = Li at *
                  rcases Decidable.em (Li = 0) with h | h
                  · subst h
                    clear hb2
                    go_wp2_with (go_at_call 11; refine T.out.mono ?_; rintro e w7 ⟨rfl, h7⟩; subst h7)
                    all_goals
                      go_meet
                      exact ⟨us, left, rfl, HU.out, hf0, hf1, ED.out⟩
                  · have hl := hb2.resolve_right h
                    subst hl
                    clear hb2
                    go_wp2_with (go_at_call 11; refine T.out.mono ?_; rintro e w7 ⟨rfl, h7⟩; subst h7)
                    all_goals
                      go_meet
                      exact ⟨us, 0, rfl, HU.out, hf0, hf1, ED.out⟩
                · have hl0 : left ≠ 0 := fun h => hbad (.inl h)
                  obtain ⟨x, r, hf⟩ : ∃ x r, fr us = x :: r := by
                    cases hf : fr us with
                    | nil => exact absurd (.inr hf) hbad
                    | cons x r => exact ⟨x, r, rfl⟩
                  have T := Lib.hid (H6.out.take hl0 hf)
                  have hxu : us[x]? = some false := fr_mem.1 (by rw [hf]; simp)
                  have hxk : x < k := by rw [← HU.out]; exact some_lt' hxu
                  have hxki : (x : Int) < (k : Int) := by omega
                  have hLp : 0 < (fr us).length := by rw [hf]; simp
                  have hLpi : 0 < ((fr us).length : Int) := by omega
                  have GX := Lib.hid (show (fr us).getD 0 0 = x by rw [hf]; rfl)
                  have UL := Lib.hid (show (us.set x true).length = k by rw [List.length_set]; exact HU.out)
                  clear hbad hf hxu c1
                  go_upto_region 26 with (go_at_call 11; refine T.out.mono ?_; rintro e w7 ⟨rfl, h7, k7⟩; have H7 := Lib.hid h7; have K7 := Lib.hid (blk_keepG K6.out k7 (.inl rfl)); have R7 := Lib.hid (rowI_keepG R6.out k7 (fun g e => .inr e)); clear h7 k7)
                  clear T H6 K6 R6
                  obtain ⟨g, c7, hv, hc7⟩ := rowI_cell R7.out hLp
                  injection hv with hv1 hv2 hv3
                  subst hv1; subst hv3; clear hv2
                  have cw := hc7 0 hLp
                  rw [GX.out] at cw
                  have fb := K7.out.unfrozen x
                  have tb := (K7.out.cellAt (i := x) (v := .bool (us.getD x false)) (by rw [List.getElem?_map, List.getD_eq_getElem?_getD, List.getElem?_eq_getElem (by rw [HU.out]; exact hxk)]; rfl))
                  have ED : Hid (PS w p b (us.set x true) (decL left) (w7.setCell ⟨b, x, none⟩ (.bool true))) := ⟨(H7.out.set (b := b) (.inl rfl) x _).sub (fun i h => .inl h), by rw [List.map_set]; exact K7.out.set x _⟩
                  clear H7 K7 R7 hc7 GX D6 hLp hxk
                  generalize (fr us).length = L at *
                  rcases Decidable.em (0 < left) with hlp | hlp
                  · have DL := Lib.hid (show decL left = left - 1 by unfold decL; split <;> omega)
                    have hLz : ((L : Int) == 0) = false := by simp; omega
                    have hlz : (left == 0) = false := by simp; omega
                    go_wp2
                    all_goals
                      go_meet
                      exact ⟨us.set x true, decL left, by rw [DL.out], UL.out, by rw [DL.out]; omega, by rw [DL.out]; omega, ED.out⟩
                  · have hl1 : left = -1 := by omega
                    subst hl1
                    go_wp2
                    all_goals
                      go_meet
                      exact ⟨us.set x true, -1, rfl, UL.out, by decide, by decide, ED.out⟩
              rw [decide_eq_false h1]
              go_upto_if 114 with (fail)
              go_cut [114, 66] (fun s t wx => s = .bool (decide (kk = 2 ∨ kk = 3)) ∧ (t = .int .u8 (kk : Int) ∨ t = .int .u8 (xi % 6)) ∧ wr = wx)
              case first =>
                as_aux_lemma =>
                rcases (show kk = 2 ∨ kk = 3 ∨ 4 ≤ kk by omega) with rfl | rfl | h
                · go_wp2
                  go_meet
                  exact ⟨rfl, by first | exact .inl rfl | exact .inr rfl, rfl⟩
                · go_wp2
                  go_meet
                  exact ⟨rfl, by first | exact .inl rfl | exact .inr rfl, rfl⟩
                · have hq0 : ((kk : Int) == 2) = false := by simp; omega
                  have hq1 : ((kk : Int) == 3) = false := by simp; omega
                  go_wp2
                  go_meet
                  exact ⟨by rw [decide_eq_false (by omega)], by first | exact .inl rfl | exact .inr rfl, rfl⟩
              obtain ⟨rfl, ht, rfl⟩ := hcut
              rw [hx6, or_self] at ht
              subst ht
              clear hx6 hx0 hx1
              by_cases h2 : kk = 2 ∨ kk = 3
              rw [decide_eq_true h2]
              · as_aux_lemma =>
                have HS : Hid (LB w p us left (fun i => i = b) wr) := H6.out.sub (fun i h => .inl h)
                clear R6 D6
                by_cases hin : 0 ≤ xn ∧ xn < k
                · obtain ⟨m, rfl⟩ : ∃ m : Nat, xn = (m : Int) := ⟨xn.toNat, by omega⟩
                  obtain ⟨hm0, hmk⟩ := hin
                  have hmu : m < us.length := by rw [HU.out]; omega
                  have tb := K6.out.cellAt (i := m) (v := .bool us[m]) (by rw [List.getElem?_map, List.getElem?_eq_getElem hmu]; rfl)
                  have fb := K6.out.unfrozen m
                  cases hu : us[m] with
                  | true =>
                    have hux : us[m]? = some true := by rw [List.getElem?_eq_getElem hmu, hu]
                    rw [hu] at tb
                    have T := Lib.hid (HS.out.give hux)
                    have HX := Lib.hid hux
                    have UL := Lib.hid (show (us.set m false).length = k by rw [List.length_set]; exact HU.out)
                    clear hux hu hmu H6 HS fb
                    go_upto_region 41 with (go_at_call 13; refine T.out.mono ?_; rintro e w7 ⟨rfl, h7, k7⟩; have H7 := Lib.hid h7; have K7 := Lib.hid (blk_keepG K6.out k7 rfl); clear h7 k7)
                    clear T K6 tb
                    have tb := K7.out.cellAt (i := m) (v := .bool true) (by rw [List.getElem?_map, HX.out]; rfl)
                    have fb := K7.out.unfrozen m
                    have ED : Hid (PS w p b (us.set m false) left (w7.setCell ⟨b, m, none⟩ (.bool false))) := ⟨H7.out.set (b := b) rfl m _, by rw [List.map_set]; exact K7.out.set m _⟩
                    clear H7 K7 HX
                    go_wp2
                    all_goals
                      go_meet
                      exact ⟨us.set m false, left, rfl, UL.out, hf0, hf1, ED.out⟩
                  | false =>
                    have hux : us[m]? = some false := by rw [List.getElem?_eq_getElem hmu, hu]
                    rw [hu] at tb
                    have T := Lib.hid (HS.out.lp.giveUsed hux)
                    have ED : Hid (PS w p b us left wr) := ⟨HS.out, K6.out⟩
                    clear hux hu hmu H6 K6 HS
                    go_wp2_with (go_at_call 13; refine T.out.mono ?_; rintro e w7 ⟨rfl, h7⟩; subst h7)
                    all_goals
                      go_meet
                      exact ⟨us, left, rfl, HU.out, hf0, hf1, ED.out⟩
                · have T := Lib.hid (HS.out.lp.giveArg xn (by rw [HU.out]; omega))
                  have ED : Hid (PS w p b us left wr) := ⟨HS.out, K6.out⟩
                  have hor : xn < 0 ∨ (k : Int) ≤ xn := by omega
                  clear hin H6 K6 HS
                  rcases hor with h | h
                  · go_wp2_with (go_at_call 13; refine T.out.mono ?_; rintro e w7 ⟨rfl, h7⟩; subst h7)
                    all_goals
                      go_meet
                      exact ⟨us, left, rfl, HU.out, hf0, hf1, ED.out⟩
                  · go_wp2_with (go_at_call 13; refine T.out.mono ?_; rintro e w7 ⟨rfl, h7⟩; subst h7)
                    all_goals
                      go_meet
                      exact ⟨us, left, rfl, HU.out, hf0, hf1, ED.out⟩
              rw [decide_eq_false h2]
              by_cases h4 : kk = 4
              subst h4
              · as_aux_lemma =>
                obtain ⟨q, hq⟩ : ∃ q, xn.tmod 8 = q := ⟨_, rfl⟩
                have hq0 : -8 < q := by rw [← hq]; have := Int.lt_tmod_of_pos xn (show (0 : Int) < 8 by decide); omega
                have hq1 : q < 8 := by rw [← hq]; exact Int.tmod_lt_of_pos xn (by decide)
                by_cases hn : q ≤ 0
                · as_aux_lemma =>
                  have HS : Hid (LB w p us left (fun i => i = b) wr) := H6.out.sub (fun i h => .inl h)
                  have T := Lib.hid (HS.out.someOk q 0 (by omega) (by decide) ⟨by omega, by omega⟩)
                  rw [show setAll us ((fr us).take 0) true = us from rfl, show leftN left 0 = left by unfold leftN; split <;> omega] at T
                  clear HS H6 R6 D6
                  go_upto_region 50 with (go_at_call 12; refine T.out.mono ?_; rintro e w7 ⟨a7, c7, rfl, h7, _, k7⟩; have ED : Hid (PS w p b us left w7) := ⟨h7.sub (fun i h => .inr h), blk_keepG K6.out k7 rfl⟩; clear h7 k7)
                  clear T K6
                  have hs1 : Hid True := trivial
                  go_upto_region 54 with (fail)
                  go_loopw [21] (fun vj wx => vj = .int .i64 0 ∧ wx = w7) (fun _ _ => 0)
                  case atStart => exact ⟨rfl, rfl⟩
                  case round =>
                    obtain ⟨rfl, rfl⟩ := hrel
                    go_wp2
                    all_goals
                      go_meet
                      exact ⟨us, left, rfl, HU.out, hf0, hf1, ED.out⟩
                · obtain ⟨m, rfl⟩ : ∃ m : Nat, q = (m : Int) := ⟨q.toNat, by omega⟩
                  have hm0 : 0 < (m : Int) := by omega
                  by_cases hc : canTake us left m
                  · as_aux_lemma =>
                    have hc1 : (m : Int) ≤ ((fr us).length : Int) := by have := hc.1; omega
                    have hc2 : left = -1 ∨ (m : Int) ≤ left := by have := hc.2; omega
                    have hmf : m ≤ (fr us).length := hc.1
                    have T := Lib.hid (H6.out.someOk (m : Int) m (by omega) (by omega) hc)
                    have TL := Lib.hid (show ((fr us).take m).length = m by rw [List.length_take]; omega)
                    have UL := Lib.hid (fun j => show (setAll us ((fr us).take j) true).length = k by rw [setAll_length]; exact HU.out)
                    have XK := Lib.hid (fun j (hj : j < m) => show (fr us).getD j 0 < k ∧ ((fr us).take m).getD j 0 = (fr us).getD j 0 ∧ setAll us ((fr us).take (j + 1)) true = (setAll us ((fr us).take j) true).set ((fr us).getD j 0) true by
                      have hjf : j < (fr us).length := by omega
                      have e : (fr us).getD j 0 = (fr us)[j] := getD_el hjf
                      refine ⟨?_, take_getD _ hj, ?_⟩
                      · rw [e, ← HU.out]; exact some_lt' (fr_mem.1 (List.getElem_mem hjf))
                      · rw [e, take_set hjf])
                    have LN : Hid ((leftN left m = left - m ∧ 0 < left ∧ (m : Int) ≤ left) ∨ leftN left m = left ∧ left = -1) := by
                      unfold leftN
                      show _ ∨ _
                      rcases hc2 with h | h
                      · right; rw [if_pos (by omega)]; exact ⟨rfl, h⟩
                      · left; rw [if_neg (by omega)]; exact ⟨rfl, by omega, h⟩
                    clear hc hmf
                    go_upto_region 50 with (go_at_call 12; refine T.out.mono ?_; rintro e w7 ⟨a7, c7, rfl, h7, r7, k7⟩; have H7 := Lib.hid h7; have Q7 := Lib.hid r7; have K7 := Lib.hid (blk_keepG K6.out k7 (.inl rfl)); have R7 := Lib.hid (rowI_keepG R6.out k7 (fun g e => .inr e)); have D7 : Hid ((Value.slice a7 m c7).ownBlock ≠ some b) := fun e => by { have h1 := (World.ownsRow.lt r7 b e).1; have h2 := K6.out.lt; omega }; clear h7 k7 r7)
                    clear T H6 K6 R6
                    obtain ⟨WB, hWB⟩ : ∃ WB, wr.heap.size = WB := ⟨_, rfl⟩
                    rw [hWB] at Q7
                    clear hWB
                    have I7 : Hid (LB w p (setAll us ((fr us).take m) true) (leftN left m) (fun i => i = b) w7 ∧ Blk w7 b ((setAll us ((fr us).take 0) true).map Value.bool) 4 ∧ RowI w.heap.size (.slice ra (fr us).length rc) (fr us) w7 ∧ RowI WB (.slice a7 m c7) ((fr us).take m) w7) :=
                      ⟨H7.out.sub (fun i h => .inr (.inl h)), K7.out, R7.out, Q7.out⟩
                    clear H7 K7 R7 Q7
                    have RS := Lib.hid (rfl : 0 = 0)
                    generalize hL : (fr us).length = L at *
                    have HL := Lib.hid hL
                    clear hL
                    go_cut [20] (fun s wx => s = .bool true ∧ w7 = wx)
                    case first =>
                      as_aux_lemma =>
                      rcases hc2 with hl | hl
                      · subst hl
                        go_wp2
                        go_meet
                        exact ⟨rfl, rfl⟩
                      · go_wp2
                        all_goals
                          go_meet
                          exact ⟨rfl, rfl⟩
                    obtain ⟨rfl, rfl⟩ := hcut
                    clear hc2
                    go_upto_region 54 with (fail)
                    go_loopw [21] (fun vj wx => ∃ j : Nat, j ≤ m ∧ vj = .int .i64 j ∧ LB w p (setAll us ((fr us).take m) true) (leftN left m) (fun i => i = b) wx ∧ Blk wx b ((setAll us ((fr us).take j) true).map Value.bool) 4 ∧ RowI w.heap.size (.slice ra L rc) (fr us) wx ∧ RowI WB (.slice a7 m c7) ((fr us).take m) wx) (fun vj _ => m - (intOf vj).toNat)
                    case atStart => exact ⟨0, Nat.zero_le _, rfl, I7.out.1, I7.out.2.1, I7.out.2.2.1, I7.out.2.2.2⟩
                    case round =>
                      clear I7
                      obtain ⟨j, hjm, rfl, h1, h2, h3, h4⟩ := hrel
                      have H8 := Lib.hid h1
                      have K8 := Lib.hid h2
                      have R8 := Lib.hid h3
                      have Q8 := Lib.hid h4
                      clear h1 h2 h3 h4
                      by_cases hlt2 : j < m
                      · as_aux_lemma =>
                        have hji : (j : Int) < (m : Int) := by omega
                        have hjL : j < L := by omega
                        have hjLi : (j : Int) < (L : Int) := by omega
                        obtain ⟨g6, e6, hv6, hc6⟩ := rowI_cell R8.out (j := j) (by rw [HL.out]; exact hjL)
                        obtain ⟨g7, e7, hv7, hc7⟩ := rowI_cell Q8.out (j := j) (by rw [TL.out]; exact hlt2)
                        injection hv6 with x1 x2 x3
                        injection hv7 with x4 x5 x6
                        have ca := hc6 j (by rw [HL.out]; exact hjL)
                        have cb := hc7 j (by rw [TL.out]; exact hlt2)
                        obtain ⟨y1, y2, y3⟩ := XK.out j hlt2
                        rw [y2] at cb
                        have YS := Lib.hid y3
                        subst x1; subst x4
                        clear hc6 hc7 x2 x3 x5 x6 y2 y3
                        generalize (fr us).getD j 0 = y at *
                        have hyk : (y : Int) < (k : Int) := by omega
                        have hy20 : (y : Int) ≤ 18 := by omega
                        have tb := K8.out.cellAt (i := y) (v := .bool ((setAll us ((fr us).take j) true).getD y false)) (by rw [List.getElem?_map, List.getD_eq_getElem?_getD, List.getElem?_eq_getElem (by rw [UL.out]; exact y1)]; rfl)
                        have fb := K8.out.unfrozen y
                        have ED : Hid (∀ W n, W = (wr.drewN n).setCell ⟨b, y, none⟩ (.bool true) → LB w p (setAll us ((fr us).take m) true) (leftN left m) (fun i => i = b) W ∧ Blk W b ((setAll us ((fr us).take (j + 1)) true).map Value.bool) 4 ∧ RowI w.heap.size (.slice (some ⟨g6, 0, none⟩) L rc) (fr us) W ∧ RowI WB (.slice (some ⟨g7, 0, none⟩) m c7) ((fr us).take m) W) := by
                          intro W n hW
                          subst hW
                          have kk : Keep (fun i => i = b) (wr.drewN n) ((wr.drewN n).setCell ⟨b, y, none⟩ (.bool true)) := Keep.setCell (S := fun i => i = b) (Keep.refl _ _) (p := ⟨b, y, none⟩) (fun _ => rfl) _
                          refine ⟨(H8.out.below (below_drewN (Below.refl _ _) n)).set (b := b) rfl y _, ?_, sl_keep (sl_below R8.out (below_drewN (Below.refl _ _) n)) kk (fun g e e2 => D6.out (by rw [e, e2])), sl_keep (sl_below Q8.out (below_drewN (Below.refl _ _) n)) kk (fun g e e2 => D7.out (by rw [e, e2]))⟩
                          rw [YS.out, List.map_set]
                          exact (K8.out.drewN n).set y _
                        clear H8 K8 R8 Q8 D6 D7 YS y1 UL XK TL HL LN hjL
                        go_upto_region 56 with (fail)
                        go_quiet (fail)
                        go_wp2
                        all_goals exact ⟨⟨j + 1, by omega, by go_num, ED.out _ _ rfl⟩, by simp only [intOf]; omega⟩
                      · have e : j = m := by omega
                        subst e
                        have ED : Hid (PS w p b (setAll us ((fr us).take j) true) (leftN left j) wr) := ⟨H8.out, K8.out⟩
                        have UM := Lib.hid (UL.out j)
                        clear H8 K8 R8 Q8 D6 D7 UL XK TL HL
                        as_aux_lemma =>
                        rcases LN.out with ⟨l1, l2, l3⟩ | ⟨l1, l2⟩
                        · rw [l1] at ED
                          go_wp2
                          all_goals
                            go_meet
                            exact ⟨_, left - j, rfl, UM.out, by omega, by omega, ED.out⟩
                        · rw [l1] at ED
                          subst l2
                          go_wp2
                          all_goals
                            go_meet
                            exact ⟨_, -1, rfl, UM.out, by decide, by decide, ED.out⟩
                  · as_aux_lemma =>
                    have HS : Hid (LB w p us left (fun i => i = b) wr) := H6.out.sub (fun i h => .inl h)
                    have T := Lib.hid (HS.out.someBad (m : Int) m (by omega) (by omega) hc)
                    have hcn : ((fr us).length : Int) < (m : Int) ∨ (0 ≤ left ∧ left < (m : Int) ∧ (m : Int) ≤ ((fr us).length : Int)) := by
                      unfold canTake at hc
                      omega
                    have hL0 : 0 ≤ ((fr us).length : Int) := by omega
                    clear hc H6 R6 D6
                    go_upto_region 50 with (go_at_call 12; refine T.out.mono ?_; rintro e w7 ⟨rfl, ⟨i7, h7a, h7b, h7c, h7⟩, k7⟩; have ED : Hid (PS w p b us (leftN left i7) w7) := ⟨h7, blk_keepG K6.out k7 rfl⟩; have N7 := Lib.hid (And.intro h7a (And.intro h7b h7c)); clear h7 k7 h7a h7b h7c)
                    clear T K6 HS
                    generalize hL : (fr us).length = L at *
                    clear hL
                    generalize hLL : (L : Int) = Li at *
                    go_cut [20] (fun s wx => s = .bool false ∧ w7 = wx)
                    case first =>
                      as_aux_lemma =>
                      rcases hcn with hl | ⟨hl, hl2, hl3⟩
                      · go_wp2
                        all_goals
                          go_meet
                          exact ⟨rfl, rfl⟩
                      · go_wp2
                        all_goals
                          go_meet
                          exact ⟨by congr 1; simp; omega, rfl⟩
                    obtain ⟨rfl, rfl⟩ := hcut
                    go_upto_region 54 with (fail)
                    go_loopw [21] (fun vj wx => vj = .int .i64 0 ∧ wx = w7) (fun _ _ => 0)
                    case atStart => exact ⟨rfl, rfl⟩
                    case round =>
                      obtain ⟨rfl, rfl⟩ := hrel
                      have N8 := N7.out
                      rcases (show left = -1 ∨ left = 0 ∨ (0 < left ∧ Li ≤ left) ∨ (0 < left ∧ left < Li) by omega) with hl | hl | ⟨hl, hl2⟩ | ⟨hl, hl2⟩
                      · as_aux_lemma =>
                        have e : leftN left i7 = left := by unfold leftN; rw [if_pos (by omega)]
                        rw [e] at ED
                        subst hl
                        clear N8 hcn
                        go_wp2
                        all_goals
                          go_meet
                          exact ⟨us, -1, rfl, HU.out, by decide, by decide, ED.out⟩
                      · as_aux_lemma =>
                        have e : leftN left i7 = left := by unfold leftN; rw [if_neg (by omega)]; omega
                        rw [e] at ED
                        subst hl
                        clear N8 hcn
                        go_wp2
                        all_goals
                          go_meet
                          exact ⟨us, 0, rfl, HU.out, by decide, by decide, ED.out⟩
                      · as_aux_lemma =>
                        have e : leftN left i7 = left - Li := by unfold leftN; rw [if_neg (by omega)]; omega
                        rw [e] at ED
                        have hmin : min Li left = Li := by omega
                        clear N8 hcn
                        go_wp2
                        all_goals
                          go_meet
                          exact ⟨us, left - Li, by go_num, HU.out, by omega, by omega, ED.out⟩
                      · as_aux_lemma =>
                        have e : leftN left i7 = left - left := by unfold leftN; rw [if_neg (by omega)]; omega
                        rw [e] at ED
                        have hmin : min Li left = left := by omega
                        clear N8 hcn
                        go_wp2
                        all_goals
                          go_meet
                          exact ⟨us, left - left, by go_num, HU.out, by omega, by omega, ED.out⟩
              obtain rfl : kk = 5 := by omega
              · as_aux_lemma =>
                have HS : Hid (LB w p us left (fun i => i = b) wr) := H6.out.sub (fun i h => .inl h)
                obtain ⟨q, hq⟩ : ∃ q, xn.tmod 8 = q := ⟨_, rfl⟩
                have hq0 : -8 < q := by rw [← hq]; have := Int.lt_tmod_of_pos xn (show (0 : Int) < 8 by decide); omega
                have hq1 : q < 8 := by rw [← hq]; exact Int.tmod_lt_of_pos xn (by decide)
                clear R6 D6 H6
                by_cases hn : q < 0
                · have T := Lib.hid (HS.out.fail (-1) (by decide))
                  rw [show failL (-1) = -1 from rfl] at T
                  clear HS
                  go_wp2_with (go_at_call 15; refine T.out.mono ?_; rintro e w7 ⟨rfl, h7, k7⟩; have ED : Hid (PS w p b us (-1) w7) := ⟨h7, blk_keepG K6.out k7 rfl⟩; clear h7 k7)
                  all_goals
                    go_meet
                    exact ⟨us, -1, rfl, HU.out, by decide, by decide, ED.out⟩
                · have T := Lib.hid (HS.out.fail q (by omega))
                  rw [show failL q = q by unfold failL; split <;> omega] at T
                  clear HS
                  go_wp2_with (go_at_call 15; refine T.out.mono ?_; rintro e w7 ⟨rfl, h7, k7⟩; have ED : Hid (PS w p b us q w7) := ⟨h7, blk_keepG K6.out k7 rfl⟩; clear h7 k7)
                  all_goals
                    go_meet
                    exact ⟨us, q, rfl, HU.out, by omega, by omega, ED.out⟩
            obtain ⟨us2, left2, rfl, hu2, hg0, hg1, hps⟩ := hcut
            have P9 := Lib.hid hps
            have U9 := Lib.hid hu2
            have E9 := Lib.hid (show frB us2 k = fr us2 by rw [← hu2, frB_all])
            clear hu2 hps FU HU hf0 hf1 H6 K6 R6 D6 c1 hfl hfi hk6 hxn0 hxn1 hj hjk
            go_upto_region 65 with (fail)
            go_loopw [22, 23] (fun lv vj wx => ∃ (j : Nat), j ≤ k ∧ vj = .int .i64 j ∧ lv = .int .i64 ((frB us2 j).length : Int) ∧ PS w p b us2 left2 wx) (fun _ vj _ => k - (intOf vj).toNat)
            case atStart => exact ⟨0, Nat.zero_le _, rfl, rfl, P9.out⟩
            case round =>
              clear P9
              obtain ⟨j, hj, rfl, rfl, h1⟩ := hrel
              have P8 := Lib.hid h1
              clear h1
              have hfl : (frB us2 j).length ≤ 19 := Nat.le_trans (frB_le us2 j) (by omega)
              have hfi : ((frB us2 j).length : Int) ≤ 19 := by omega
              by_cases hjk : j < k
              · have hjki : (j : Int) < (k : Int) := by omega
                have hju : j < us2.length := by rw [U9.out]; exact hjk
                cases hu : us2[j] with
                | true =>
                  as_aux_lemma =>
                  have hux : us2[j]? = some true := by rw [List.getElem?_eq_getElem hju, hu]
                  have ch : wr.cell? ⟨b, j, none⟩ = some (.bool true) := P8.out.2.cellAt (by rw [List.getElem?_map, hux]; rfl)
                  have E := Lib.hid (frB_used hux)
                  have UC := Lib.hid (fun q => (P8.out.1.below (below_drewN (Below.refl _ wr) q)).lp.used hux)
                  have ED : Hid (∀ q, PS w p b us2 left2 (wr.drewN q)) := fun q => ⟨P8.out.1.below (below_drewN (Below.refl _ wr) q), P8.out.2.drewN q⟩
                  clear hux hu hju P8
                  go_upto_region 67 with (fail)
                  go_quiet ((go_at_call 14; exact Calls.quiet_of_same (UC.out _)))
                  go_wp2
                  all_goals exact ⟨⟨j + 1, by omega, by go_num, by rw [E.out], ED.out _⟩, by simp only [intOf]; omega⟩
                | false =>
                  as_aux_lemma =>
                  have hux : us2[j]? = some false := by rw [List.getElem?_eq_getElem hju, hu]
                  have ch : wr.cell? ⟨b, j, none⟩ = some (.bool false) := P8.out.2.cellAt (by rw [List.getElem?_map, hux]; rfl)
                  have E := Lib.hid (frB_free hux)
                  have EL := Lib.hid (show (frB us2 (j + 1)).length = (frB us2 j).length + 1 by rw [E.out]; simp)
                  have UC := Lib.hid (fun q => (P8.out.1.below (below_drewN (Below.refl _ wr) q)).lp.used hux)
                  have ED : Hid (∀ q, PS w p b us2 left2 (wr.drewN q)) := fun q => ⟨P8.out.1.below (below_drewN (Below.refl _ wr) q), P8.out.2.drewN q⟩
                  clear hux hu hju P8 E
                  generalize hfn : (frB us2 j).length = fnn at *
                  go_upto_region 67 with (fail)
                  go_quiet ((go_at_call 14; exact Calls.quiet_of_same (UC.out _)))
                  go_wp2
                  all_goals exact ⟨⟨j + 1, by omega, by go_num, by rw [EL.out]; go_num, ED.out _⟩, by simp only [intOf]; omega⟩
              · have e : k = j := by omega
                subst e
                have L := Lib.hid P8.out.1.lp.left
                rw [E9.out]
                rw [E9.out] at hfl hfi
                clear E9
                generalize (fr us2).length = L at *
                go_wp2_with (go_at_call 10; refine L.out.mono ?_; rintro e w8 ⟨rfl, h8⟩; subst h8)
                all_goals exact ⟨⟨i + 1, us2, left2, by omega, by go_num, rfl, U9.out, hg0, hg1, P8.out⟩, by simp only [intOf]; omega⟩
      · go_wp2
        go_ret
        exact ⟨rfl, HP.out.1.bel⟩
  · have hl0 : ¬ ((segs.length : Int) ≤ 60) := by omega
    have hl1 : (60 : Int) < (segs.length : Int) := by omega
    clear h60 hn
    have A0 := Lib.hid (AW.out w)
    go_enter Try.func6, Try.ntmps6
    go_upto_region 2 with (go_at_call 8; refine A0.out.mono ?_; rintro e w1 ⟨rfl, b1⟩; have B1 := Lib.hid b1; have A1 := Lib.hid (AW.out w1); clear b1)
    clear A0 AW
    go_wp2_with (go_at_call 8; refine A1.out.mono ?_; rintro e w2 ⟨rfl, b2⟩)
    go_ret
    exact ⟨rfl, B1.out.trans (b2.mono B1.out.size)⟩
end Go.Proofs.Ytigeadiclajkjaa.Walks
