/- Walks through the functions of the statement, and the statement over them: each contract says what the call answers and that nothing else changes. -/
import Derived.Test.YtigeadiclajkjaaProg
import Derived.Laws.BytesString
import Derived.Test.YtigeadiclajkjaaBits
import Derived.Test.YtigeadiclajkjaaHeap
import Derived.Test.YtigeadiclajkjaaAid
import Derived.Lib.Hide
import Derived.Test.YtigeadiclajkjaaArr
import Derived.Test.YtigeadiclajkjaaEql
import Derived.Test.YtigeadiclajkjaaWalkHeap
import Derived.WalkKit
import Derived.WalkSpells
import Derived.WalkLawsBesides
import Derived.Deep.QuietTactic
import Derived.BigQuiet
import Derived.Deep.RegionHeld3
import Derived.Deep.DeepCutAuto
import Derived.Deep.CutBlock
import Derived.Lib.SlBytesConst
import Derived.StillTailTactics
import Derived.Laws.MakeOwn
import Derived.Deep.AppendLies
import Derived.Laws.CopyOwn
import Derived.Maps.AppendAt
import Derived.Deep.Upon
import Derived.Deep.AppendSrc
import Derived.RegionTactic
import Derived.Deep.RegionLaw
import Derived.Shelf.Abstract
namespace Go.Proofs.Ytigeadiclajkjaa.Walks
set_option linter.unusedVariables false
set_option linter.unusedSimpArgs false
open Go.RowKit Go.Proofs.Ytigeadiclajkjaa.Bits Go.Proofs.Ytigeadiclajkjaa.Heap Go.Proofs.Ytigeadiclajkjaa.Aid Go.Proofs.Ytigeadiclajkjaa.Arr Go.Proofs.Ytigeadiclajkjaa.Eql

def UpP (w : World) (B p : Nat) (vf vu : Value) (us : List Bool) (left : Int) (res : List Nat) (e : Ending) (w' : World) : Prop := e = .returned (.tuple #[]) ∧ Pv B p vf vu res us left w' ∧ Keep (fun i => vf.ownBlock = some i) w w'
theorem up_stop {f : Nat} {h1 res : List Nat} {j : Nat} (hd : upL f h1 j = res) (hs : j = 0 ∨ ¬ h1.getD j 0 < h1.getD ((j - 1) / 2) 0) : h1 = res := by
  cases f with
  | zero => exact hd
  | succ f =>
    rw [← hd]
    unfold upL
    rcases hs with h | h
    · rw [if_pos h]
    · rw [if_neg h]; split <;> rfl
theorem up_go {f : Nat} {h1 res : List Nat} {j : Nat} (hd : upL f h1 j = res) (hf : j ≤ f) (h0 : j ≠ 0) (hs : h1.getD j 0 < h1.getD ((j - 1) / 2) 0) : ∃ f', upL f' (swapL h1 ((j - 1) / 2) j) ((j - 1) / 2) = res ∧ (j - 1) / 2 ≤ f' := by
  cases f with
  | zero => omega
  | succ f =>
    refine ⟨f, ?_, by omega⟩
    rw [← hd]
    conv => rhs; unfold upL
    rw [if_neg h0, if_pos hs]
theorem up_rel {B p g cap : Nat} {vu : Value} {h h1 res : List Nat} {us : List Bool} {left : Int} {w wr w2 : World} {i j f q q2 : Nat} (hl : h1.length = h.length) (s1 : Pv B p (.slice (some ⟨g, 0, none⟩) h1.length cap) vu h1 us left wr)
    (k1 : Keep (fun i => (Value.slice (some ⟨g, 0, none⟩) h1.length cap).ownBlock = some i) w wr) (hd : upL f h1 j = res) (hf : j ≤ f) (h0 : j ≠ 0) (hj : j < h.length) (hi : (j - 1) / 2 = i) (hs : h1.getD j 0 < h1.getD i 0)
    (hw : w2 = (((wr.drewN q).setCell ⟨g, i, none⟩ (.int .i64 ((h1.getD j 0 : Nat) : Int))).setCell ⟨g, j, none⟩ (.int .i64 ((h1.getD i 0 : Nat) : Int))).drewN q2) :
    ∃ (j' f' : Nat) (h2 : List Nat), Value.int .i64 (i : Int) = .int .i64 (j' : Int) ∧ j' < h.length ∧ h2.length = h.length ∧ Pv B p (.slice (some ⟨g, 0, none⟩) h1.length cap) vu h2 us left w2 ∧
      Keep (fun i => (Value.slice (some ⟨g, 0, none⟩) h1.length cap).ownBlock = some i) w w2 ∧ upL f' h2 j' = res ∧ j' ≤ f' := by
  rw [← hi] at hs
  obtain ⟨f', d1, d2⟩ := up_go hd hf h0 hs
  rw [hi] at d1 d2
  subst hw
  refine ⟨i, f', _, rfl, by omega, (swapL_length _ _ _).trans hl, ((s1.drewN q).swap (by omega) (by omega)).drewN q2, ?_, d1, d2⟩
  have k2 : Keep (fun i => (Value.slice (some ⟨g, 0, none⟩) h1.length cap).ownBlock = some i) wr (wr.drewN q) := Keep.of_below (below_drewN (Below.refl _ wr) q)
  have k3 := (Keep.setCell (S := fun i => (Value.slice (some ⟨g, 0, none⟩) h1.length cap).ownBlock = some i) (Keep.setCell (S := fun i => (Value.slice (some ⟨g, 0, none⟩) h1.length cap).ownBlock = some i) (Keep.refl _ (wr.drewN q)) (p := ⟨g, i, none⟩) (fun _ => rfl) (.int .i64 ((h1.getD j 0 : Nat) : Int))) (p := ⟨g, j, none⟩) (fun _ => rfl) (.int .i64 ((h1.getD i 0 : Nat) : Int)))
  exact ((k1.trans k2).trans k3).trans (Keep.of_below (below_drewN (Below.refl _ _) q2))
set_option maxHeartbeats 4000000 in
theorem up_calls {B p : Nat} {vf vu : Value} {h : List Nat} {us : List Bool} {left : Int} {w : World} (s : Pv B p vf vu h us left w) (j0 : Nat) (hj0 : j0 < h.length) (h5 : h.length ≤ 1000) :
    Calls Try.prog 21 #[.iface 50 (.pointer (some ⟨p, 0, none⟩)), .int .i64 (j0 : Int)] w (UpP w B p vf vu us left (upL j0 h j0)) := by
  have H5 := Lib.hid h5
  have HJ0 := Lib.hid hj0
  have EL := enter_less; have ES := enter_swap
  have D0 := Lib.hid (show ∃ f h1, h1.length = h.length ∧ Pv B p vf vu h1 us left w ∧ Keep (fun i => vf.ownBlock = some i) w w ∧ upL f h1 j0 = upL j0 h j0 ∧ j0 ≤ f from ⟨j0, h, rfl, s, Keep.refl _ w, rfl, by omega⟩)
  generalize upL j0 h j0 = res at *
  clear s h5 hj0
  go_enter Try.func21, Try.ntmps21
  go_upto_region 0 with (fail)
  go_loopw [1] (fun vi wr => ∃ (j f : Nat) (h1 : List Nat), vi = .int .i64 j ∧ j < h.length ∧ h1.length = h.length ∧ Pv B p vf vu h1 us left wr ∧ Keep (fun i => vf.ownBlock = some i) w wr ∧ upL f h1 j = res ∧ j ≤ f) (fun vi _ => (intOf vi).toNat)
  case atStart =>
    obtain ⟨f, h1, a, b, c, d, e⟩ := D0.out
    exact ⟨j0, f, h1, rfl, HJ0.out, a, b, c, d, e⟩
  case round =>
    clear D0
    obtain ⟨j, f, h1, rfl, hj, hl, s1, k1, hd, hf⟩ := hrel
    have S1 := Lib.hid s1
    have K1 := Lib.hid k1
    have HD := Lib.hid hd
    have HL := Lib.hid hl
    have HF := Lib.hid hf
    have HJ := Lib.hid hj
    clear s1 k1 hd hl hf hj
    by_cases h0 : j = 0
    · subst h0
      go_wp2
      go_end0
      exact ⟨rfl, by rw [← up_stop HD.out (.inl rfl)]; exact S1.out, K1.out⟩
    · have hl1 : h1.length = h.length := HL.out
      have hn2 := H5.out
      have hj := HJ.out
      obtain ⟨g, cap, sp, rfl, hg, hc1, hc2, hb, hgp⟩ := S1.out.row (by omega)
      have cp : wr.cell? ⟨p, 0, none⟩ = some (.slice (some ⟨g, 0, none⟩) h1.length cap) := S1.out.c.cellAt (i := 0) rfl
      have cpq : ∀ q, (wr.drewN q).cell? ⟨p, 0, none⟩ = some (.slice (some ⟨g, 0, none⟩) h1.length cap) := fun q => (S1.out.drewN q).c.cellAt (i := 0) rfl
      have mL := reach_less cp
      have mSq := fun q => reach_swap (cpq q)
      obtain ⟨i, hi⟩ : ∃ i, (j - 1) / 2 = i := ⟨_, rfl⟩
      have hq : ((j : Int) - 1).tdiv 2 = (i : Int) := by
        rw [← hi, show (j : Int) - 1 = ((j - 1 : Nat) : Int) by omega, Int.tdiv_eq_ediv_of_nonneg (by omega)]
        omega
      have hij : ¬ ((i : Int) = (j : Int)) := by omega
      have hi1 : (i : Int) ≤ 999 := by omega
      have hj1 : (j : Int) ≤ 999 := by omega
      have HI := Lib.hid hi
      have la := less_calls (w := wr) (cap := cap) (i := j) (j := i) (n := h1.length) (by omega) (by omega) (by omega) (cellI hb (by omega)) (cellI hb (by omega))
      have sb := fun q => swap_calls (w := wr.drewN q) (cap := cap) (i := i) (j := j) (n := h1.length) (by omega) (by omega) (by omega) (cellI (hb.drewN q) (by omega)) (cellI (hb.drewN q) (by omega)) ((hb.drewN q).unfrozen _) ((hb.drewN q).unfrozen _)
      clear cp cpq hb hl1 hn2 hi hj
      by_cases hx : h1.getD j 0 < h1.getD i 0
      · rw [decide_eq_true hx] at la
        go_upto_region 1 with (fail)
        clear hq
        go_wp2_with (first | (go_at_fn 39; refine la.mono ?_; rintro e w2 ⟨rfl, q, rfl⟩) | (go_at_fn 40; refine (sb _).mono ?_; rintro e w2 ⟨rfl, q, rfl⟩))
        all_goals (exact ⟨up_rel HL.out S1.out K1.out HD.out HF.out h0 HJ.out HI.out hx (by rfl), by simp only [intOf]; have := HI.out; omega⟩)
      · rw [decide_eq_false hx] at la
        go_upto_region 1 with (fail)
        clear hq
        go_wp2_with (first | (go_at_fn 39; refine la.mono ?_; rintro e w2 ⟨rfl, q, rfl⟩))
        go_end0
        exact ⟨rfl, by rw [← up_stop HD.out (.inr (by rw [HI.out]; exact hx))]; exact (S1.out.drewN _), K1.out.trans (Keep.of_below (below_drewN (Below.refl _ wr) _))⟩
theorem int_info : ∃ i, Try.prog.info? 3 = some i ∧ i.zero = some (.int .i64 0) ∧ i.size = 1 ∧ i.bytes = 8 := by
  have h : (Try.prog.info? 3).map (fun i => (i.zero, i.size, i.bytes)) = some (some (.int .i64 0), 1, 8) := by kernel_rfl
  obtain ⟨i, hi, he⟩ := Option.map_eq_some_iff.1 h
  simp only [Prod.mk.injEq] at he
  exact ⟨i, hi, he.1, he.2.1, he.2.2⟩
theorem owns_shrink {w : World} {base m cap g : Nat} {e : TypeId} {xs : List Value} (h : w.ownsRow base e 1 (.slice (some ⟨g, 0, none⟩) (m + 1) cap) (m + 1) xs) : w.ownsRow base e 1 (.slice (some ⟨g, 0, none⟩) m cap) m (xs.take m) := by
  obtain ⟨h1, h2⟩ := h
  refine ⟨by rw [List.length_take]; omega, .inr ?_⟩
  rcases h2 with ⟨hv, _⟩ | ⟨g', cap', cur, hv, hb, hg, hc, hm, hs, ht⟩
  · cases hv
  · injection hv with hv1 _ hv3
    injection hv1 with hv1
    injection hv1 with hv1
    subst hv1; subst hv3
    refine ⟨g, cap, cur, rfl, hb, hg, by omega, hm, hs, ?_⟩
    rw [← ht, List.take_take]
    congr 1
    omega
theorem fpop_fin {B p g cap m : Nat} {vu : Value} {h : List Nat} {us : List Bool} {left : Int} {w : World} (s : Pv B p (.slice (some ⟨g, 0, none⟩) h.length cap) vu h us left w) (hm : h.length = m + 1) (hgp : g ≠ p) :
    Pv B p (.slice (some ⟨g, 0, none⟩) m cap) vu (h.take m) us left (w.setCell ⟨p, 0, none⟩ (.slice (some ⟨g, 0, none⟩) m cap)) := by
  have k : Keep (fun i => i = p) w (w.setCell ⟨p, 0, none⟩ (.slice (some ⟨g, 0, none⟩) m cap)) := Keep.setCell (S := fun i => i = p) (Keep.refl _ w) (p := ⟨p, 0, none⟩) (fun _ => rfl) _
  have r := s.rf
  rw [hm] at r
  have r2 := sl_keep (owns_shrink r) k (fun g' e e2 => hgp (by injection e with e; exact e.trans e2))
  refine ⟨s.c.set 0 _, ?_, sl_keep s.ru k (fun g' e e2 => s.nu (by rw [e, e2])), fun e => hgp (by injection e), s.nu, fun g' e => s.nn g' (by rw [← e]; rfl)⟩
  rw [List.length_take, hm, show min m (m + 1) = m by omega, List.map_take]
  exact r2
def FpopP (w : World) (B p : Nat) (vf vu : Value) (us : List Bool) (left : Int) (r : List Nat) (x : Nat) (e : Ending) (w' : World) : Prop :=
  e = .returned (.iface 3 (.int .i64 (x : Int))) ∧ ∃ vf', vf'.ownBlock = vf.ownBlock ∧ Pv B p vf' vu r us left w' ∧ Keep (fun i => i = p) w w'
set_option maxHeartbeats 4000000 in
theorem fpop_calls {B p : Nat} {vf vu : Value} {h : List Nat} {us : List Bool} {left : Int} {w : World} (s : Pv B p vf vu h us left w) (h0 : 0 < h.length) (h5 : h.length ≤ 1000) :
    Calls Try.prog 41 #[.pointer (some ⟨p, 0, none⟩)] w (FpopP w B p vf vu us left (h.take (h.length - 1)) (h.getD (h.length - 1) 0)) := by
  obtain ⟨m, hm⟩ : ∃ m, h.length = m + 1 := ⟨h.length - 1, by omega⟩
  obtain ⟨g, cap, sp, rfl, hg, hc1, hc2, hb, hgp⟩ := s.row h0
  have cx := cellI hb (i := m) (by omega)
  have cp : w.cell? ⟨p, 0, none⟩ = some (.slice (some ⟨g, 0, none⟩) h.length cap) := s.c.cellAt (i := 0) rfl
  have fp := s.c.unfrozen 0
  have S := Lib.hid s
  have HM := Lib.hid hm
  rw [hm, Nat.add_sub_cancel]
  rw [hm] at cp
  have hmi : (m : Int) ≤ 999 := by omega
  have hmc : (m : Int) + 1 ≤ (cap : Int) := by omega
  have hmc2 : (m : Int) ≤ (cap : Int) := by omega
  have hmc3 : ¬ (cap = 0) := by omega
  have hc6 : (cap : Int) ≤ 9223372036854775807 := by unfold maxLen at hc2; omega
  have HGP := Lib.hid hgp
  generalize hx : h.getD m 0 = x at *
  clear s hm hb hc1 hc2 h0 h5 hg hgp hx
  go_enter Try.func41, Try.ntmps41
  go_wp2
  go_ret
  exact ⟨rfl, .slice (some ⟨g, 0, none⟩) m cap, rfl, fpop_fin S.out HM.out HGP.out, Keep.setCell (S := fun i => i = p) (Keep.refl _ w) (p := ⟨p, 0, none⟩) (fun _ => rfl) _⟩
theorem assert_int (x : Int) (W : World) : (Instr.typeAssert (.iface 3 (.int .i64 x)) 20 3 false).run Try.prog W = .ok (.int .i64 x) W := by
  simp [Instr.typeAssert, go_sem, Try.underlying3]
def FpushP (w : World) (B p : Nat) (vf vu : Value) (us : List Bool) (left : Int) (r : List Nat) (e : Ending) (w' : World) : Prop :=
  e = .returned (.tuple #[]) ∧ ∃ vf', (∀ g, vf'.ownBlock = some g → vf.ownBlock = some g ∨ w.heap.size ≤ g) ∧ Pv B p vf' vu r us left w' ∧ Keep (fun i => i = p ∨ vf.ownBlock = some i) w w'
theorem one_row (W : World) (x : Nat) : Below W.heap.size W ((W.alloc (.cells #[.int .i64 (x : Int)] 3)).drewN 1) ∧ Row ((W.alloc (.cells #[.int .i64 (x : Int)] 3)).drewN 1) encI (.slice (some ⟨W.heap.size, 0, none⟩) 1 1) [x] :=
  ⟨below_drewN ((Below.refl _ _).alloc (Nat.le_refl _) _) 1, Row.of_blk (l := [x]) (enc := encI) ((Blk.new W #[.int .i64 (x : Int)] 3).drewN 1)⟩
theorem fpush_fin {B p : Nat} {vf v5 vu : Value} {h : List Nat} {x : Nat} {us : List Bool} {left : Int} {w W w5 : World} (s : Pv B p vf vu h us left W) (hb : Below w.heap.size w W) (hl : ∀ g, vu.ownBlock = some g → g < w.heap.size) (hp : p < w.heap.size) (hown : w5.ownsRow B 3 1 v5 (h.length + [x].length) (h.map encI ++ [x].map encI)) (hgrow : W.grownBy w5 vf.ownBlock)
    (hat : v5.ownBlock = vf.ownBlock ∨ v5.ownBlock = some W.heap.size) : FpushP w B p vf vu us left (h ++ [x]) (.returned (.tuple #[])) (w5.setCell ⟨p, 0, none⟩ v5) := by
  have K5 := keep_grown hgrow
  have hW : w.heap.size ≤ W.heap.size := hb.size
  have hne : ∀ g, v5.ownBlock = some g → vf.ownBlock = some g ∨ w.heap.size ≤ g := fun g e => by
    rcases hat with h | h
    · exact .inl (by rw [← h]; exact e)
    · right; rw [h] at e; injection e with e; omega
  have np : v5.ownBlock ≠ some p := fun e => by
    rcases hne p e with h | h
    · exact s.nf h
    · omega
  have k6 : Keep (fun i => i = p) w5 (w5.setCell ⟨p, 0, none⟩ v5) := Keep.setCell (S := fun i => i = p) (Keep.refl _ w5) (p := ⟨p, 0, none⟩) (fun _ => rfl) _
  refine ⟨rfl, v5, hne, ⟨(s.c.keep K5 (fun e => s.nf e)).set 0 _, ?_, sl_keep (sl_keep s.ru K5 (fun g e e2 => s.nn g e2 e)) k6 (fun g e e2 => s.nu (by rw [e, e2])), np, s.nu, fun g e e2 => ?_⟩, ?_⟩
  · rw [List.length_append, List.map_append]
    exact sl_keep hown k6 (fun g e e2 => np (by rw [e, e2]))
  · rcases hne g e with h | h
    · exact s.nn g h e2
    · have := hl g e2; omega
  · have k1 : Keep (fun i => i = p ∨ vf.ownBlock = some i) w W := Keep.of_below hb
    exact (k1.trans (K5.mono (fun i _ h => .inr h))).trans (k6.mono (fun i _ h => .inl h))
set_option maxHeartbeats 4000000 in
theorem fpush_calls {B p : Nat} {vf vu : Value} {h : List Nat} {us : List Bool} {left : Int} {w : World} (s : Pv B p vf vu h us left w) (hB : B ≤ w.heap.size) (x : Nat) (hx : x ≤ 1000) (h5 : h.length ≤ 999) :
    Calls Try.prog 42 #[.pointer (some ⟨p, 0, none⟩), .iface 3 (.int .i64 (x : Int))] w (FpushP w B p vf vu us left (h ++ [x])) := by
  obtain ⟨ii, hii, hz, hs, hb⟩ := int_info
  have HI := Lib.hid hii
  have HZ := Lib.hid hz
  have HSz := Lib.hid hs
  have HBy := Lib.hid hb
  have cp : w.cell? ⟨p, 0, none⟩ = some vf := s.c.cellAt (i := 0) rfl
  have fp := s.c.unfrozen 0
  have S := Lib.hid s
  have OR := Lib.hid (one_row w x)
  have S1 := Lib.hid (s.below OR.out.1)
  have H5 := Lib.hid h5
  have HB := Lib.hid hB
  have TA := fun W => assert_int (x : Int) W
  have VL := Lib.hid (fun g (e : vu.ownBlock = some g) => (World.ownsRow.lt s.ru g e).2)
  have PL := Lib.hid s.c.lt
  obtain ⟨a, cap, hv⟩ := own_form s.rf
  subst hv
  have cpa : (w.alloc (.cells #[.int .i64 (x : Int)] 3)).cell? ⟨p, 0, none⟩ = some (.slice a h.length cap) := (s.c.alloc _).cellAt (i := 0) rfl
  clear s hii hz hs hb h5 hB
  go_enter Try.func42, Try.ntmps42
  go_upto_region 0 with (fail)
  go_region_law ((refine step_append_row encI_one (by rfl) (.tmp 7) (.tmp 10) 46 (by rfl) B 3 ii _ 8 Try.underlying46 HI.out HZ.out HSz.out HBy.out (by rfl) _ h.length _ (by rfl) S1.out.rf _ [x] (by rfl) OR.out.2 (by have := H5.out; simp; unfold maxLen; omega) (by have := H5.out; simp; omega) (Nat.le_trans HB.out OR.out.1.size) ?_; intro v5 w5 hown hgrow hat; obtain ⟨a5, c5, rfl⟩ := own_form hown; have cp5 := (S1.out.c.keep (keep_grown hgrow) (fun e => S1.out.nf e)).cellAt (i := 0) rfl; have fp5 := (S1.out.c.keep (keep_grown hgrow) (fun e => S1.out.nf e)).unfrozen 0; have FF := Lib.hid (fpush_fin S1.out OR.out.1 VL.out PL.out hown hgrow hat); clear hown hgrow hat))
  all_goals
    go_wp2
    go_end0
    exact FF.out
def HpopP (w : World) (B p : Nat) (vf vu : Value) (us : List Bool) (left : Int) (r : List Nat) (x : Nat) (e : Ending) (w' : World) : Prop :=
  e = .returned (.iface 3 (.int .i64 (x : Int))) ∧ ∃ vf', vf'.ownBlock = vf.ownBlock ∧ Pv B p vf' vu r us left w' ∧ Keep (fun i => i = p ∨ vf.ownBlock = some i) w w'
set_option maxHeartbeats 4000000 in
theorem hpop_calls {B p : Nat} {vf vu : Value} {h : List Nat} {us : List Bool} {left : Int} {w : World} (s : Pv B p vf vu h us left w) (h0 : 0 < h.length) (h5 : h.length ≤ 1000) :
    Calls Try.prog 18 #[.iface 50 (.pointer (some ⟨p, 0, none⟩))] w (HpopP w B p vf vu us left (popL h) (h.getD 0 0)) := by
  obtain ⟨m, hm⟩ : ∃ m, h.length = m + 1 := ⟨h.length - 1, by omega⟩
  obtain ⟨g, cap, sp, rfl, hg, hc1, hc2, hb, hgp⟩ := s.row h0
  have cp : w.cell? ⟨p, 0, none⟩ = some (.slice (some ⟨g, 0, none⟩) h.length cap) := s.c.cellAt (i := 0) rfl
  have EN := enter_len; have ES := enter_swap; have EP := enter_pop
  have mN := reach_len cp
  have mS := reach_swap cp
  have mP := fun W => reach_pop W p
  have nC := len_calls (w := w) (a := some ⟨g, 0, none⟩) (n := h.length) (cap := cap) (by omega)
  have sC := swap_calls (w := w) (cap := cap) (i := 0) (j := m) (n := h.length) (by omega) (by omega) (by omega) (cellI hb (by omega)) (cellI hb (by omega)) (hb.unfrozen _) (hb.unfrozen _)
  have dC := Lib.hid (fun q => down_calls ((s.swap (i := 0) (j := m) (by omega) (by omega)).drewN q) 0 m (by rw [swapL_length]; omega) (by rw [swapL_length]; omega) (by omega))
  have pC := Lib.hid (fun W (P : Pv B p (.slice (some ⟨g, 0, none⟩) h.length cap) vu (downL m (swapL h 0 m) 0 m) us left W) => fpop_calls P (by rw [downL_length, swapL_length]; omega) (by rw [downL_length, swapL_length]; omega))
  have KS := Lib.hid (fun q => (Keep.setCell (S := fun i => i = p ∨ (Value.slice (some ⟨g, 0, none⟩) h.length cap).ownBlock = some i) (Keep.setCell (S := fun i => i = p ∨ (Value.slice (some ⟨g, 0, none⟩) h.length cap).ownBlock = some i) (Keep.refl _ w) (p := ⟨g, 0, none⟩) (fun _ => .inr rfl) (.int .i64 ((h.getD m 0 : Nat) : Int))) (p := ⟨g, m, none⟩) (fun _ => .inr rfl) (.int .i64 ((h.getD 0 0 : Nat) : Int))).trans (Keep.of_below (below_drewN (Below.refl _ _) q)))
  have e1 : popL h = (downL m (swapL h 0 m) 0 m).take ((downL m (swapL h 0 m) 0 m).length - 1) := by
    rw [downL_length, swapL_length]; unfold popL; rw [hm, Nat.add_sub_cancel]
  have e2 : h.getD 0 0 = (downL m (swapL h 0 m) 0 m).getD ((downL m (swapL h 0 m) 0 m).length - 1) 0 := by
    rw [downL_length, swapL_length]
    have := popL_last h h0
    rw [hm, Nat.add_sub_cancel] at this ⊢
    exact this.symm
  rw [e1, e2]
  rw [show ((0 : Nat) : Int) = 0 from rfl] at sC dC
  generalize (downL m (swapL h 0 m) 0 m).take ((downL m (swapL h 0 m) 0 m).length - 1) = r1 at *
  generalize (downL m (swapL h 0 m) 0 m).getD ((downL m (swapL h 0 m) 0 m).length - 1) 0 = r2 at *
  generalize hd : downL m (swapL h 0 m) 0 m = d at *
  have hm2 : ((h.length : Nat) : Int) - 1 = (m : Int) := by omega
  have hmi : (m : Int) ≤ 999 := by omega
  clear e1 e2 s hb hd h0 h5 hm hc1 hc2 cp
  generalize h.getD 0 0 = x0 at *
  generalize h.getD m 0 = xm at *
  generalize h.length = N at *
  go_enter Try.func18, Try.ntmps18
  go_upto_region 3 with (first
    | (go_at_fn 38; refine nC.mono ?_; rintro e w2 ⟨rfl, rfl⟩)
    | (go_at_fn 40; refine sC.mono ?_; rintro e w2 ⟨rfl, q, rfl⟩; have DC := Lib.hid (dC.out q); have K1 := Lib.hid (KS.out q)))
  clear nC sC mN mS KS dC
  generalize ((w2.setCell _ _).setCell _ _).drewN q = w3 at *
  go_upto_region 4 with (go_at_call 20; refine DC.out.mono ?_; rintro e w4 ⟨⟨bb, rfl⟩, P4, K4⟩; have PC4 := Lib.hid (pC.out _ P4); have K4' := Lib.hid (K1.out.trans (K4.mono (fun i _ h => Or.inr (a := i = p) h))); clear P4 K4)
  clear pC DC K1
  go_wp2_with (go_at_fn 41; refine PC4.out.mono ?_; rintro e w5 ⟨rfl, vf', o5, P5, K5⟩)
  go_ret
  exact ⟨rfl, vf', o5, P5, K4'.out.trans (K5.mono (fun i _ h => .inl h))⟩
def HpushP (w : World) (B p : Nat) (vf vu : Value) (us : List Bool) (left : Int) (r : List Nat) (e : Ending) (w' : World) : Prop :=
  e = .returned (.tuple #[]) ∧ ∃ vf', (∀ g, vf'.ownBlock = some g → vf.ownBlock = some g ∨ w.heap.size ≤ g) ∧ Pv B p vf' vu r us left w' ∧ Keep (fun i => i = p ∨ vf.ownBlock = some i) w w'
set_option maxHeartbeats 4000000 in
theorem hpush_calls {B p : Nat} {vf vu : Value} {h : List Nat} {us : List Bool} {left : Int} {w : World} (s : Pv B p vf vu h us left w) (hB : B ≤ w.heap.size) (x : Nat) (hx : x ≤ 1000) (h5 : h.length ≤ 998) :
    Calls Try.prog 19 #[.iface 50 (.pointer (some ⟨p, 0, none⟩)), .iface 3 (.int .i64 (x : Int))] w (HpushP w B p vf vu us left (pushL h x)) := by
  have EN := enter_len; have EP := enter_push
  have mP := fun W => reach_push W p
  have pC := Lib.hid (fpush_calls s hB x hx (by omega))
  have hl1 : (h ++ [x]).length = h.length + 1 := by simp
  have nC := Lib.hid (fun (v : Value) (W : World) (P : Pv B p v vu (h ++ [x]) us left W) => And.intro (reach_len (P.c.cellAt (i := 0) rfl)) (show ∃ a cap, v = .slice a (h.length + 1) cap ∧ Calls Try.prog 38 #[.slice a (h.length + 1) cap] W fun e w' => e = .returned (.int .i64 ((h.length + 1 : Nat) : Int)) ∧ w' = W by
    obtain ⟨a, cap, hv⟩ := own_form P.rf
    rw [hl1] at hv
    exact ⟨a, cap, hv, len_calls (by omega)⟩))
  have uC := Lib.hid (fun (v : Value) (W : World) (P : Pv B p v vu (h ++ [x]) us left W) => up_calls P h.length (by rw [hl1]; omega) (by rw [hl1]; omega))
  rw [show upL h.length (h ++ [x]) h.length = pushL h x from rfl] at uC
  have hm2 : ((h.length + 1 : Nat) : Int) = (h.length : Int) + 1 := by omega
  have hmi : (h.length : Int) ≤ 999 := by omega
  generalize pushL h x = r1 at *
  generalize h ++ [x] = h2 at *
  clear s h5 hl1 hB
  go_enter Try.func19, Try.ntmps19
  go_upto_region 1 with (go_at_fn 42; refine pC.out.mono ?_; rintro e w2 ⟨rfl, v2, o2, P2, K2⟩; have P2' := Lib.hid P2; have O2 := Lib.hid o2; have K2' := Lib.hid K2; have N2 := nC.out _ _ P2; have U2 := Lib.hid (uC.out _ _ P2); clear P2 o2 K2)
  clear pC nC uC
  obtain ⟨mN, a2, cap2, rfl, nC⟩ := N2
  rw [hm2] at nC
  go_wp2_with (first
    | (go_at_fn 38; refine nC.mono ?_; rintro e w3 ⟨rfl, h3⟩; subst h3)
    | (go_at_call 21; refine U2.out.mono ?_; rintro e w4 ⟨rfl, P4, K4⟩))
  go_end0
  refine ⟨rfl, _, O2.out, P4, ?_⟩
  refine K2'.out.step (S' := fun i => Value.ownBlock (.slice a2 (h.length + 1) cap2) = some i) K4 (fun i hi e => ?_)
  rcases O2.out i e with h1 | h1
  · exact .inr h1
  · omega
end Go.Proofs.Ytigeadiclajkjaa.Walks
