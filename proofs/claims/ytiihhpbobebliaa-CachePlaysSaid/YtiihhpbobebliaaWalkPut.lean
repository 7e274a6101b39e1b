/- Walks through the functions of the statement, and the statement over them: each contract says what the call answers and that nothing else changes. -/
import Derived.Test.YtiihhpbobebliaaProg


import Derived.Laws.BytesString
import Derived.Test.YtiihhpbobebliaaBits
import Derived.Test.YtiihhpbobebliaaHeap
import Derived.Test.YtiihhpbobebliaaAid
import Derived.Lib.Hide
import Derived.Test.YtiihhpbobebliaaArr
import Derived.Test.YtiihhpbobebliaaEql
import Derived.Test.YtiihhpbobebliaaWalkCa
import Derived.WalkKit
import Derived.WalkSpells
import Derived.WalkLawsBesides
import Derived.Deep.QuietTactic
import Derived.BigQuiet
import Derived.Deep.RegionHeld3
import Derived.Deep.DeepCutAuto
import Derived.Deep.CutBlock
import Derived.Lib.SlBytesConst
import Derived.StillTailTactics

import Derived.Deep.RegionLaw
import Derived.Laws.MakeOwn
import Derived.Deep.AppendLies
import Derived.Laws.CopyOwn
import Derived.RegionTactic
namespace Go.Proofs.Ytiihhpbobebliaa.Walks
set_option linter.unusedVariables false
set_option linter.unusedSimpArgs false
open Go.RowKit Go.Proofs.Ytiihhpbobebliaa.Bits Go.Proofs.Ytiihhpbobebliaa.Heap Go.Proofs.Ytiihhpbobebliaa.Aid Go.Proofs.Ytiihhpbobebliaa.Arr Go.Proofs.Ytiihhpbobebliaa.Eql

def putL (l : List Ro) (x : Ro) : List Ro := (if (dropR l x.vm x.pg).length = 8 then (dropR l x.vm x.pg).tail else dropR l x.vm x.pg) ++ [x]
theorem rows_tail (l : List Ro) : (rows l).drop 5 = rows l.tail := by
  have h := flat_drop ro5 l 1
  rw [Nat.one_mul] at h
  unfold rows
  rw [h, List.drop_one]
theorem put_fin {w w4 w6 w7 : World} {p n g7 cap7 : Nat} {v4 : Value} {l2 : List Ro} {x : Ro} (hC : Cv w.heap.size p v4 l2 w4 ∧ l2.length = n) (BD : Below w4.heap.size w4 w6) (K7 : Keep (fun i => v4.ownBlock = some i) w6 w7)
    (N7 : w7.ownsRow w.heap.size 49 5 (.slice (some ⟨g7, 0, none⟩) (n + 1) cap7) (n + 1) (rows l2 ++ x.cells)) (A7 : v4.ownBlock = some g7 ∨ g7 = w6.heap.size) (KK : Keep (fun i => i = p) w w4) (hn : n + 1 ≤ 8) (PL : p < w.heap.size) :
    KeepP w p (l2 ++ [x]) (.returned (.tuple #[])) (w7.setCell ⟨p, 0, none⟩ (.slice (some ⟨g7, 0, none⟩) (n + 1) cap7)) := by
  obtain ⟨CF, hl⟩ := hC
  have hp4 : p < w4.heap.size := CF.c.lt
  have hp6 : p < w6.heap.size := Nat.lt_of_lt_of_le hp4 BD.size
  have hg : g7 ≠ p := by
    rcases A7 with h | h
    · intro e; rw [e] at h; exact CF.ne h
    · omega
  have P7 := (CF.c.below BD hp4).keep K7 (fun e => CF.ne e)
  have GE := own_ge CF.r
  have K : Keep (fun i => i = p) w w7 := (KK.step (S' := fun _ => False) (Keep.of_below BD) (fun _ _ h => h.elim)).step K7 (fun i hi e => by have := GE i e; omega)
  have er : rows (l2 ++ [x]) = rows l2 ++ x.cells := by
    unfold rows
    rw [flat_append]
    simp [flat]
  refine ⟨_, rfl, ⟨P7.set 0 _, ?_, fun e => hg (by injection e), by rw [List.length_append]; simp; omega⟩, K.setCell (fun _ => rfl) _⟩
  have h := sl_keep N7 ((Keep.refl (fun i => i = p) w7).setCell (p := ⟨p, 0, none⟩) (fun _ => rfl) (.slice (some ⟨g7, 0, none⟩) (n + 1) cap7)) (fun g e => by
    intro e2
    have h1 : g7 = g := by injection e
    omega)
  rw [er, show (l2 ++ [x]).length = n + 1 by rw [List.length_append, hl]; rfl]
  exact h
set_option maxHeartbeats 4000000 in
theorem put_calls {B p : Nat} {v : Value} {l : List Ro} {w : World} (h : Cv B p v l w) (ho : ∀ x ∈ l, x.Ok) (x : Ro) (hx : x.Ok) :
    Calls Try.prog 8 #[.pointer (some ⟨p, 0, none⟩), .int .i64 x.vm, .int .i64 x.pg, .agg #[.bool x.th, .int .i64 x.fr, .bool x.wr]] w (KeepP w p (putL l x)) := by
  have hB : Below w.heap.size w (w.alloc (.cells #[.bool x.th, .int .i64 x.fr, .bool x.wr] 28)) := (Below.refl _ _).alloc (Nat.le_refl _) _
  have bE := Blk.new w #[.bool x.th, .int .i64 x.fr, .bool x.wr] 28
  have hsz : (w.alloc (.cells #[.bool x.th, .int .i64 x.fr, .bool x.wr] 28)).heap.size = w.heap.size + 1 := by simp
  have DC := Lib.hid (drop_calls (h.below hB) ho x.vm x.pg hx.a hx.b)
  have PL := Lib.hid h.c.lt
  have HB := Lib.hid hB
  have HE := Lib.hid bE
  have HS := Lib.hid hsz
  have PU := Lib.hid (show putL l x = (if (dropR l x.vm x.pg).length = 8 then (dropR l x.vm x.pg).tail else dropR l x.vm x.pg) ++ [x] from rfl)
  generalize putL l x = res at *
  generalize dropR l x.vm x.pg = l1 at *
  obtain ⟨xv, xp, xt, xf, xw⟩ := x
  simp only at DC PU HE HB HS ⊢
  obtain ⟨ii, hii, hz, hs, hb⟩ := row_info
  have HI := Lib.hid hii
  have HZ := Lib.hid hz
  have HSz := Lib.hid hs
  have HBy := Lib.hid hb
  clear hB bE hsz h ho hx hii hz hs hb
  go_enter Try.func8, Try.ntmps8
  go_upto_region 1 with (fail)
  generalize w.alloc (.cells #[.bool xt, .int .i64 xf, .bool xw] 28) = w1 at *
  go_upto_region 3 with (go_at_call 10; refine DC.out.mono ?_; rintro e w2 ⟨v2, rfl, c2, k2⟩)
  have E2 : Hid (Blk w2 w.heap.size [.bool xt, .int .i64 xf, .bool xw] 28) := HE.out.keep k2 (fun e => by have := PL.out; omega)
  have C2 : Hid (Cv w.heap.size p v2 l1 w2) := c2.mono (by have := HS.out; omega)
  have K2 : Hid (Keep (fun i => i = p) w w2) := keep_pre HB.out k2
  have E2L : Hid (w.heap.size < w2.heap.size) := E2.out.lt
  clear c2 k2 DC HE HB HS
  obtain ⟨a, cap, hv⟩ := own_form C2.out.r
  subst hv
  have cp := C2.out.c.cellAt (i := 0) rfl
  have fp := C2.out.c.unfrozen 0
  by_cases h8 : l1.length = 8
  · have PU2 : Hid (res = l1.tail ++ [⟨xv, xp, xt, xf, xw⟩]) := by show res = _; rw [PU.out, if_pos h8]
    obtain ⟨g, cap0, sp, hv, hg, hcap, hcm, hblk⟩ := sl_form C2.out.r (by omega)
    obtain ⟨rfl, rfl⟩ : a = some ⟨g, 0, none⟩ ∧ cap = cap0 := by
      injection hv with h1 _ h3
      exact ⟨h1, h3⟩
    rw [h8] at cp hv hcap C2
    have LT := Lib.hid (show l1.tail.length = 7 by rw [List.length_tail, h8])
    have LR := Lib.hid (show (rows l1.tail).length = 7 * 5 by unfold rows; rw [flat_length ro5, LT.out])
    have NW := Lib.hid (show ∀ j u, (rows l1.tail)[j]? = some u → w2.cell? ((⟨g, 5, none⟩ : Addr).add j) = some u from fun j u hu => by
      have h5 : w2.cell? ⟨g, 5 + j, none⟩ = some u := by
        refine hblk.cellAt ?_
        rw [← rows_tail, List.getElem?_drop] at hu
        rw [List.getElem?_append_left (some_lt hu)]
        exact hu
      have ea : (⟨g, 5, none⟩ : Addr).add j = ⟨g, 5 + j, none⟩ := by
        unfold Addr.add
        split
        · rename_i hj; rw [hj]
        · rfl
      rw [ea]; exact h5)
    have RO := Lib.hid (rows_one l1.tail)
    have hc1 : ¬ (cap = 1) := by omega
    have hc2 : ¬ (cap ≤ 1) := by omega
    have hc3 : ¬ (cap - 1 = 0) := by omega
    have hc4 : (8 : Int) ≤ (cap : Int) := by omega
    have hc5 : (1 : Int) ≤ (cap : Int) := by omega
    have hc6 : (cap : Int) ≤ 9223372036854775807 := by unfold maxLen at hcm; omega
    clear hv hblk hg PU hcm
    have HCap := Lib.hid hcap
    clear hcap
    go_upto_region 5 with (at_builtin; refine wpList_append_lies _ (by rfl) _ _ _ (by rfl) w2.heap.size 49 ii _ 5 40 Try.underlying23 HI.out HZ.out HSz.out HBy.out (by rfl) (by omega) (.slice none 0 0) 0 [] (by rfl) (World.ownsRow_nil _ _ _ _) ⟨g, 5, none⟩ 7 (cap - 1) (rows l1.tail) (by rfl) LR.out NW.out RO.out (by omega) (by unfold maxLen; omega) (by omega) (Nat.le_refl _) _ rfl ?_; intro g3 cap3 w3 hown hgrow hat hlt; have N3 := Lib.hid hown; have G3 := Lib.hid hgrow; have A3 := Lib.hid hat; clear hown hgrow hat hlt; have K3 := Lib.hid (keep_grown G3.out); have cp3 := (C2.out.c.keep K3.out (fun e => by cases e)).cellAt (i := 0) rfl; have fp3 := (C2.out.c.keep K3.out (fun e => by cases e)).unfrozen 0)
    have P3 := Lib.hid (C2.out.c.keep K3.out (fun e => by cases e))
    have G3E : Hid (w2.heap.size ≤ g3) := by
      rcases A3.out with h | h
      · cases h
      · exact Lib.hid (by omega)
    have E3 := Lib.hid ((E2.out.keep K3.out (fun e => by cases e)).other (show p ≠ w.heap.size by have := PL.out; omega) (a := ⟨p, 0, none⟩) (.slice (some ⟨g3, 0, none⟩) (0 + 7) cap3))
    have C3 := Lib.hid (P3.out.set 0 (.slice (some ⟨g3, 0, none⟩) (0 + 7) cap3))
    have KP := Lib.hid (Keep.setCell (S := fun i => i = p) (Keep.refl _ w3) (p := ⟨p, 0, none⟩) (fun _ => rfl) (.slice (some ⟨g3, 0, none⟩) (0 + 7) cap3))
    have PN : Hid (p < w2.heap.size) := C2.out.c.lt
    have R3 := Lib.hid (sl_keep N3.out KP.out (fun g hg e => by
      have h1 : g3 = g := by injection hg
      have := G3E.out; have := PN.out; omega))
    have KK : Hid (Keep (fun i => i = p) w (w3.setCell ⟨p, 0, none⟩ (.slice (some ⟨g3, 0, none⟩) (0 + 7) cap3))) := (K2.out.step (S' := fun i => (Value.slice none 0 0).ownBlock = some i) K3.out (fun i _ e => by cases e)).trans KP.out
    have Z3 : Hid (w.heap.size < (w3.setCell ⟨p, 0, none⟩ (.slice (some ⟨g3, 0, none⟩) (0 + 7) cap3)).heap.size) := E3.out.lt
    have HW := Lib.hid (Nat.le_of_lt E2L.out)
    have B3 : Hid (w.heap.size ≤ g3) := by have h1 := G3E.out; have h2 := E2L.out; exact Lib.hid (by omega)
    rw [List.nil_append] at R3
    have LT2 := LT.out
    clear cp fp cp3 fp3 N3 G3 A3 K3 P3 KP C2 K2 E2 E2L
    generalize w3.setCell ⟨p, 0, none⟩ (.slice (some ⟨g3, 0, none⟩) (0 + 7) cap3) = w4 at *
    generalize l1.tail = l2 at *
    simp only [List.set_cons_zero] at C3
    have CF : Hid (Cv w.heap.size p (.slice (some ⟨g3, 0, none⟩) 7 cap3) l2 w4) := ⟨C3.out, own_mono (B := w2.heap.size) (by rw [LT.out]; exact R3.out) HW.out, fun e => by
      have h1 : g3 = p := by injection e
      have := G3E.out; have := PN.out; omega, by rw [LT.out]; omega⟩
    have cp := CF.out.c.cellAt (i := 0) rfl
    have fp := CF.out.c.unfrozen 0
    have e0 := E3.out.cellAt (i := 0) rfl
    have e1 := E3.out.cellAt (i := 1) rfl
    have e2 := E3.out.cellAt (i := 2) rfl
    have NO := Lib.hid (fun (W' : World) (hb : Below w4.heap.size w4 W') => show W'.ownsRow w.heap.size 49 5 (.slice (some ⟨g3, 0, none⟩) 7 cap3) (7) (rows l2) by
      have h := sl_below CF.out.r hb
      (try rw [LT.out] at h)
      exact h)
    have PB := Lib.hid (fun (W' : World) (hb : Below w4.heap.size w4 W') => CF.out.c.below hb CF.out.c.lt)
    have BD := Lib.hid ((below_drewN (Below.refl w4.heap.size w4) 1).alloc (Nat.le_refl _) (.cells #[.int .i64 xv, .int .i64 xp, .bool xt, .int .i64 xf, .bool xw] 49))
    have NW := Lib.hid (fun W : World => news_blk (cs := [.int .i64 xv, .int .i64 xp, .bool xt, .int .i64 xf, .bool xw]) (sp := []) (by rw [List.append_nil]; exact Blk.new W #[.int .i64 xv, .int .i64 xp, .bool xt, .int .i64 xf, .bool xw] 49))
    have VN := Lib.hid CF.out.ne
    have CF0 : Hid (Cv w.heap.size p (.slice (some ⟨g3, 0, none⟩) 7 cap3) l2 w4 ∧ l2.length = 7) := ⟨CF.out, by first | rfl | exact LT.out⟩
    have cpA := (PB.out _ ((Below.refl w4.heap.size w4).alloc (Nat.le_refl _) (.cells #[.int .i64 xv, .int .i64 xp, .bool xt, .int .i64 xf, .bool xw] 49))).cellAt (i := 0) rfl
    have WL : Hid (w.heap.size ≤ w4.heap.size) := KK.out.size
    go_region_law ((refine step_append_lies _ (by rfl) (.tmp 33) (.tmp 39) 23 (by rfl) w.heap.size 49 ii _ 5 40 Try.underlying23 HI.out HZ.out HSz.out HBy.out (by rfl) (by omega) (.slice (some ⟨g3, 0, none⟩) 7 cap3) (7) _ (by rfl) (NO.out _ BD.out) ⟨w4.heap.size, 0, none⟩ 1 1 [.int .i64 xv, .int .i64 xp, .bool xt, .int .i64 xf, .bool xw] (by rfl) (by rfl) (NW.out _) (by simp [Value.oneCell']) (by omega) (by have := CF.out.le; unfold maxLen; omega) (by have := CF.out.le; omega) (Nat.le_trans WL.out (by simp)) _ rfl ?_; intro g7 cap7 w7 hown hgrow hat hlt; have K7 := Lib.hid (keep_grown hgrow); have P7 := Lib.hid ((PB.out _ BD.out).keep K7.out (fun e => VN.out e)); have cp7 := P7.out.cellAt (i := 0) rfl; have fp7 := P7.out.unfrozen 0; have N7 := Lib.hid hown; have A7 := Lib.hid hat; clear hown hgrow hat hlt))
    all_goals
      refine bodyPost_ret (results_none rfl _ _ _) rfl ?_
      rw [show res = _ from PU2.out]
      exact put_fin CF0.out BD.out K7.out N7.out A7.out KK.out (by have := CF.out.le; omega) PL.out
  · have h8b : ((l1.length : Int) == 8) = false := beq_false_of_ne (by omega)
    have h8c : ¬ (l1.length : Int) = 8 := by omega
    have PU2 : Hid (res = l1 ++ [⟨xv, xp, xt, xf, xw⟩]) := by show res = _; rw [PU.out, if_neg h8]
    go_upto_region 5 with (fail)
    clear cp fp
    have cp := C2.out.c.cellAt (i := 0) rfl
    have fp := C2.out.c.unfrozen 0
    have e0 := E2.out.cellAt (i := 0) rfl
    have e1 := E2.out.cellAt (i := 1) rfl
    have e2 := E2.out.cellAt (i := 2) rfl
    have NO := Lib.hid (fun (W' : World) (hb : Below w2.heap.size w2 W') => show W'.ownsRow w.heap.size 49 5 (.slice a l1.length cap) (l1.length) (rows l1) by
      have h := sl_below C2.out.r hb
      (try rw [LT.out] at h)
      exact h)
    have PB := Lib.hid (fun (W' : World) (hb : Below w2.heap.size w2 W') => C2.out.c.below hb C2.out.c.lt)
    have BD := Lib.hid ((below_drewN (Below.refl w2.heap.size w2) 1).alloc (Nat.le_refl _) (.cells #[.int .i64 xv, .int .i64 xp, .bool xt, .int .i64 xf, .bool xw] 49))
    have NW := Lib.hid (fun W : World => news_blk (cs := [.int .i64 xv, .int .i64 xp, .bool xt, .int .i64 xf, .bool xw]) (sp := []) (by rw [List.append_nil]; exact Blk.new W #[.int .i64 xv, .int .i64 xp, .bool xt, .int .i64 xf, .bool xw] 49))
    have VN := Lib.hid C2.out.ne
    have CF0 : Hid (Cv w.heap.size p (.slice a l1.length cap) l1 w2 ∧ l1.length = l1.length) := ⟨C2.out, by first | rfl | exact LT.out⟩
    have cpA := (PB.out _ ((Below.refl w2.heap.size w2).alloc (Nat.le_refl _) (.cells #[.int .i64 xv, .int .i64 xp, .bool xt, .int .i64 xf, .bool xw] 49))).cellAt (i := 0) rfl
    have WL : Hid (w.heap.size ≤ w2.heap.size) := K2.out.size
    go_region_law ((refine step_append_lies _ (by rfl) (.tmp 33) (.tmp 39) 23 (by rfl) w.heap.size 49 ii _ 5 40 Try.underlying23 HI.out HZ.out HSz.out HBy.out (by rfl) (by omega) (.slice a l1.length cap) (l1.length) _ (by rfl) (NO.out _ BD.out) ⟨w2.heap.size, 0, none⟩ 1 1 [.int .i64 xv, .int .i64 xp, .bool xt, .int .i64 xf, .bool xw] (by rfl) (by rfl) (NW.out _) (by simp [Value.oneCell']) (by omega) (by have := C2.out.le; unfold maxLen; omega) (by have := C2.out.le; omega) (Nat.le_trans WL.out (by simp)) _ rfl ?_; intro g7 cap7 w7 hown hgrow hat hlt; have K7 := Lib.hid (keep_grown hgrow); have P7 := Lib.hid ((PB.out _ BD.out).keep K7.out (fun e => VN.out e)); have cp7 := P7.out.cellAt (i := 0) rfl; have fp7 := P7.out.unfrozen 0; have N7 := Lib.hid hown; have A7 := Lib.hid hat; clear hown hgrow hat hlt))
    all_goals
      refine bodyPost_ret (results_none rfl _ _ _) rfl ?_
      rw [show res = _ from PU2.out]
      exact put_fin CF0.out BD.out K7.out N7.out A7.out K2.out (by have := C2.out.le; omega) PL.out
end Go.Proofs.Ytiihhpbobebliaa.Walks
