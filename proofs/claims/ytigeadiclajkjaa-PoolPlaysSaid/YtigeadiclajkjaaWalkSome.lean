/- Walks through the functions of the statement, and the statement over them: each contract says what the call answers and that nothing else changes. -/
import Derived.Test.YtigeadiclajkjaaProg
import Derived.Laws.BytesString
import Derived.Test.YtigeadiclajkjaaBits
import Derived.Test.YtigeadiclajkjaaHeap
import Derived.Test.YtigeadiclajkjaaAid
import Derived.Lib.Hide
import Derived.Test.YtigeadiclajkjaaArr
import Derived.Test.YtigeadiclajkjaaEql
import Derived.Test.YtigeadiclajkjaaWalkHeap
import Derived.Test.YtigeadiclajkjaaWalkHeap2
import Derived.Test.YtigeadiclajkjaaWalkPool
import Derived.Test.YtigeadiclajkjaaWalkNew
import Derived.Test.YtigeadiclajkjaaWalkLp
import Derived.WalkKit
import Derived.WalkSpells
import Derived.WalkLawsBesides
import Derived.Deep.QuietTactic
import Derived.BigQuiet
import Derived.Deep.RegionHeld3
import Derived.Deep.DeepCutAuto
import Derived.Deep.CutBlock
import Derived.Lib.SlBytesConst
import Derived.StillTailTactics
import Derived.Laws.MakeOwn
import Derived.Deep.AppendLies
import Derived.Laws.CopyOwn
import Derived.Maps.AppendAt
import Derived.Deep.Upon
import Derived.Deep.AppendSrc
import Derived.RegionTactic
import Derived.Deep.RegionLaw
import Derived.Shelf.Abstract
namespace Go.Proofs.Ytigeadiclajkjaa.Walks
set_option linter.unusedVariables false
set_option linter.unusedSimpArgs false
open Go.RowKit Go.Proofs.Ytigeadiclajkjaa.Bits Go.Proofs.Ytigeadiclajkjaa.Heap Go.Proofs.Ytigeadiclajkjaa.Aid Go.Proofs.Ytigeadiclajkjaa.Arr Go.Proofs.Ytigeadiclajkjaa.Eql

/-- The truths, where each of l has become b. -/
def setAll (us : List Bool) (l : List Nat) (b : Bool) : List Bool := l.foldl (fun u x => u.set x b) us
theorem setAll_length (us : List Bool) (l : List Nat) (b : Bool) : (setAll us l b).length = us.length := by
  induction l generalizing us with
  | nil => rfl
  | cons x r ih => show (setAll (us.set x b) r b).length = _; rw [ih, List.length_set]
theorem setAll_snoc (us : List Bool) (l : List Nat) (x : Nat) (b : Bool) : setAll us (l ++ [x]) b = (setAll us l b).set x b := by
  unfold setAll; rw [List.foldl_append]; rfl
theorem setAll_get (us : List Bool) (l : List Nat) (b : Bool) (i : Nat) (hi : i < us.length) : (setAll us l b)[i]? = if i ∈ l then some b else us[i]? := by
  induction l generalizing us with
  | nil => simp [setAll]
  | cons x r ih =>
    show (setAll (us.set x b) r b)[i]? = _
    rw [ih (us.set x b) (by simpa using hi), List.getElem?_set]
    by_cases h1 : i ∈ r
    · rw [if_pos h1, if_pos (by simp [h1])]
    · rw [if_neg h1]
      by_cases h2 : x = i
      · subst h2; simp [hi]
      · have : ¬ i ∈ x :: r := by simp [h1, Ne.symm h2]
        rw [if_neg h2, if_neg this]
theorem fr_setAll (us : List Bool) (i : Nat) (hi : i ≤ (fr us).length) : fr (setAll us ((fr us).take i) true) = (fr us).drop i := by
  induction i with
  | zero => rfl
  | succ i ih =>
    have hlt : i < (fr us).length := by omega
    rw [List.take_succ_eq_append_getElem hlt, setAll_snoc, fr_take, ih (by omega), List.drop_eq_getElem_cons hlt, List.erase_cons_head]
/-- One is given back, out of those that were taken. -/
theorem setAll_give (us : List Bool) (x : Nat) (l : List Nat) (hx : us[x]? = some false) (hn : x ∉ l) : (setAll us (x :: l) true).set x false = setAll us l true := by
  apply List.ext_getElem?
  intro i
  have hxl := some_lt' hx
  rw [List.getElem?_set]
  by_cases hi : i < us.length
  · rw [setAll_get _ _ _ _ hi, setAll_get _ _ _ _ hi, setAll_length]
    by_cases h : x = i
    · subst h
      have hx2 : us[x] = false := by rw [List.getElem?_eq_getElem hxl] at hx; injection hx
      simp [hn, hxl, hx2]
    · simp [h, Ne.symm h]
  · rw [List.getElem?_eq_none (by rw [setAll_length]; omega), List.getElem?_eq_none (by rw [setAll_length]; omega)]
    split
    · split
      · rw [setAll_length] at *; omega
      · rfl
    · rfl
/-- How many takes go well yet, behind i that did. -/
def leftN (left : Int) (i : Nat) : Int := if left < 0 then left else left - i
theorem leftN_succ {left : Int} {i : Nat} (hl : -1 ≤ left) (h : left < 0 ∨ (i : Int) < left) : decL (leftN left i) = leftN left (i + 1) := by
  unfold decL leftN
  split <;> split <;> first | omega | (split <;> omega)
theorem leftN_ne {left : Int} {i : Nat} (h : left < 0 ∨ (i : Int) < left) : leftN left i ≠ 0 := by
  unfold leftN
  split <;> omega
/-- How many of k can be taken. -/
def canTake (us : List Bool) (left : Int) (k : Nat) : Prop := k ≤ (fr us).length ∧ (left < 0 ∨ (k : Int) ≤ left)
/-- A row of the call's own, of numbers; the pool's blocks are others. -/
structure Ls (w0 : World) (F : Nat → Prop) (v : Value) (l : List Nat) (w : World) : Prop where
  r : w.ownsRow w0.heap.size 3 1 v l.length (l.map encI)
  a : ∀ g, v.ownBlock = some g → ¬ F g
theorem Ls.keep {w0 w w' : World} {F F' S : Nat → Prop} {v : Value} {l : List Nat} (h : Ls w0 F v l w) (k : Keep S w w') (hs : ∀ g, S g → F g) (hf : ∀ i, F' i → F i ∨ w.heap.size ≤ i) : Ls w0 F' v l w' :=
  ⟨sl_keep h.r k (fun g e e2 => h.a g e (hs g e2)), fun g e e2 => (hf g e2).elim (h.a g e) (fun h2 => by have := (World.ownsRow.lt h.r g e).2; omega)⟩
/-- What Some says: the frames, or none. -/
def SomeP (F : Nat → Prop) (B p : Nat) (us : List Bool) (left : Int) (k : Nat) (w : World) (e : Ending) (w' : World) : Prop :=
  (canTake us left k ∧ ∃ v, e = .returned (.tuple #[v, .int .i64 0]) ∧ ∃ F', Pl F' B p (setAll us ((fr us).take k) true) (leftN left k) w' ∧ Keep F w w' ∧ (∀ i, F' i → F i ∨ w.heap.size ≤ i) ∧ Ls w F' v ((fr us).take k) w') ∨
  (¬ canTake us left k ∧ e = .returned (.tuple #[.slice none 0 0, .int .i64 3]) ∧ ∃ i, i ≤ (fr us).length ∧ (left < 0 ∨ (i : Int) ≤ left) ∧ (i = (fr us).length ∨ (i : Int) = left) ∧ PlK F B p us (leftN left i) w w')
theorem fr_of_drop {us : List Bool} {i : Nat} (hi : i < (fr us).length) : fr (setAll us ((fr us).take i) true) = (fr us)[i] :: (fr us).drop (i + 1) := by
  rw [fr_setAll us i (by omega), List.drop_eq_getElem_cons hi]
theorem take_set {us : List Bool} {i : Nat} (hi : i < (fr us).length) : (setAll us ((fr us).take i) true).set (fr us)[i] true = setAll us ((fr us).take (i + 1)) true := by
  rw [List.take_succ_eq_append_getElem hi, setAll_snoc]
theorem some_step {F F1 F2 : Nat → Prop} {B p x : Nat} {us2 : List Bool} {left2 : Int} {wc wr w2 w5 : World} {lv v5 : Value} {l : List Nat} (K1 : Keep F wc wr) (f1 : ∀ i, F1 i → F i ∨ wc.heap.size ≤ i) (L1 : Ls wc F1 lv l wr) (S2 : Pl F2 B p us2 left2 w2) (K2 : Keep F1 wr w2) (f2 : ∀ i, F2 i → F1 i ∨ wr.heap.size ≤ i)
    (hown : w5.ownsRow wc.heap.size 3 1 v5 (l.length + [x].length) (l.map encI ++ [x].map encI)) (hgrow : (w2.alloc (.cells #[.int .i64 (x : Int)] 3)).grownBy w5 lv.ownBlock) (hat : v5.ownBlock = lv.ownBlock ∨ v5.ownBlock = some (w2.alloc (.cells #[.int .i64 (x : Int)] 3)).heap.size) :
    ∃ F', Pl F' B p us2 left2 w5 ∧ Keep F wc w5 ∧ (∀ i, F' i → F i ∨ wc.heap.size ≤ i) ∧ Ls wc F' v5 (l ++ [x]) w5 := by
  have L2 := L1.keep K2 (fun g h => h) f2
  have OA := one_rowI w2 x
  have K5 := keep_grown hgrow
  refine ⟨F2, (S2.below OA.1).keep K5 (fun i hi e => L2.a i e hi), ?_, fun i hi => ?_, ⟨by rw [List.length_append, List.map_append]; exact hown, fun g e hg => ?_⟩⟩
  · have k2 : Keep F wc w2 := K1.step K2 (fun i hi h => (f1 i h).elim id (fun h => by omega))
    exact (k2.trans (Keep.of_below OA.1)).step K5 (fun i hi e => by have := own_ge L2.r i e; omega)
  · rcases f2 i hi with h | h
    · exact f1 i h
    · exact .inr (Nat.le_trans K1.size h)
  · rcases hat with h | h
    · exact L2.a g (by rw [← h]; exact e) hg
    · rw [h] at e
      injection e with e
      have h1 := S2.lt g hg
      have h2 := OA.1.size
      omega
def GivB (F : Nat → Prop) (B p : Nat) (us : List Bool) (lq : Int) (lv : Value) (l : List Nat) (wc : World) (j : Nat) (w : World) : Prop := ∃ F2, Pl F2 B p (setAll us (l.drop j) true) lq w ∧ Keep F wc w ∧ (∀ i, F2 i → F i ∨ wc.heap.size ≤ i) ∧ Ls wc F2 lv l w
/-- One of those that were taken: where it lies, and what giving it back comes to. -/
theorem givB_step {F : Nat → Prop} {B p j : Nat} {us : List Bool} {lq : Int} {lv : Value} {l : List Nat} {wc w : World} (h : GivB F B p us lq lv l wc j w) (hj : j < l.length) (hf : ∀ x ∈ l, us[x]? = some false) (hn : l.Nodup) :
    (∃ g cap, lv = .slice (some ⟨g, 0, none⟩) l.length cap ∧ w.cell? ⟨g, j, none⟩ = some (.int .i64 ((l.getD j 0 : Nat) : Int))) ∧
    Calls Try.prog 13 #[.pointer (some ⟨p, 0, none⟩), .int .i64 ((l.getD j 0 : Nat) : Int)] w fun e w' => e = .returned (.int .i64 0) ∧ GivB F B p us lq lv l wc (j + 1) w' := by
  obtain ⟨F2, s, k, f, L⟩ := h
  refine ⟨?_, ?_⟩
  · obtain ⟨g, cap, sp, hv, _, _, _, hb⟩ := sl_form L.r (by omega)
    exact ⟨g, cap, hv, cellI hb hj⟩
  · rw [getD_el hj]
    rw [List.drop_eq_getElem_cons hj] at s
    have hm : l[j] ∈ l := List.getElem_mem hj
    have hu := hf _ hm
    have hx : (setAll us (l[j] :: l.drop (j + 1)) true)[l[j]]? = some true := by rw [setAll_get _ _ _ _ (some_lt' hu), if_pos List.mem_cons_self]
    have hnd : l[j] ∉ l.drop (j + 1) := by
      have h1 : (l.drop j).Nodup := hn.sublist (List.drop_sublist j l)
      rw [List.drop_eq_getElem_cons hj] at h1
      exact (List.nodup_cons.1 h1).1
    refine (give_calls s l[j] hx).mono ?_
    rintro e w' ⟨rfl, F3, s3, k3, f3⟩
    rw [setAll_give us _ _ hu hnd] at s3
    refine ⟨rfl, F3, s3, k.step k3 (fun i hi h => (f i h).elim id (fun h => by omega)), fun i hi => ?_, L.keep k3 (fun g h => h) f3⟩
    rcases f3 i hi with h | h
    · exact f i h
    · exact .inr (Nat.le_trans k.size h)
theorem takes_false (us : List Bool) (i : Nat) : ∀ x ∈ (fr us).take i, us[x]? = some false := fun x hx => fr_mem.1 (List.mem_of_mem_take hx)
theorem takes_nodup (us : List Bool) (i : Nat) : ((fr us).take i).Nodup := (fr_nodup us).sublist (List.take_sublist i _)
set_option maxHeartbeats 4000000 in
theorem some_calls {F : Nat → Prop} {B p : Nat} {us : List Bool} {left : Int} {w : World} (s : Pl F B p us left w) (m : Int) (k : Nat) (hk : k = (max m 0).toNat) (hk5 : k ≤ 1000) :
    Calls Try.prog 12 #[.pointer (some ⟨p, 0, none⟩), .int .i64 m] w (SomeP F B p us left k w) := by
  obtain ⟨ii, hii, hz, hs, hb⟩ := int_info
  have HI := Lib.hid hii
  have HZ := Lib.hid hz
  have HSz := Lib.hid hs
  have HBy := Lib.hid hb
  clear hii hz hs hb
  have S0 := Lib.hid s
  have HK := Lib.hid hk
  have hki : (k : Int) ≤ 1000 := by omega
  have L0 := Lib.hid s.l0
  have N0 := Lib.hid (show (fr us).length ≤ 512 by have := fr_length_le us; have := s.n; omega)
  clear s hk
  go_enter Try.func12, Try.ntmps12
  go_upto_region 4 with (fail)
  go_cut [14, 15] (fun a b wx => a = .int .i64 (k : Int) ∧ b = .int .i64 0 ∧ wx = w)
  case first =>
    go_wp2
    all_goals
      go_meet
      have := HK.out
      exact ⟨by congr 1; omega, rfl, rfl⟩
  case rest =>
    obtain ⟨rfl, rfl, rfl⟩ := hcut
    clear HK
    go_upto_region 5 with (fail)
    go_loopw [6, 15] (fun lv vi wr => ∃ i : Nat, i ≤ k ∧ vi = .int .i64 i ∧ i ≤ (fr us).length ∧ (left < 0 ∨ (i : Int) ≤ left) ∧ ∃ F', Pl F' B p (setAll us ((fr us).take i) true) (leftN left i) wr ∧ Keep F wc wr ∧ (∀ i, F' i → F i ∨ wc.heap.size ≤ i) ∧ Ls wc F' lv ((fr us).take i) wr) (fun _ vi _ => k - (intOf vi).toNat)
    case atStart => exact ⟨0, Nat.zero_le _, rfl, Nat.zero_le _, by have := L0.out; omega, F, by unfold leftN; simp; exact S0.out, Keep.refl _ _, fun i hi => .inl hi, ⟨World.ownsRow_nil _ _ _ _, fun g e => by cases e⟩⟩
    case round =>
      clear S0
      obtain ⟨i, hi, rfl, hil, hlf, F1, s1, k1, f1, l1⟩ := hrel
      have S1 := Lib.hid s1
      have K1 := Lib.hid k1
      have F1' := Lib.hid f1
      have L1 := Lib.hid l1
      have HIL := Lib.hid hil
      have HLF := Lib.hid hlf
      clear s1 k1 f1 l1 hil hlf
      have hii0 : (i : Int) ≤ 512 := by have := HIL.out; have := N0.out; omega
      by_cases hlt : i < k
      · have hlti : (i : Int) < (k : Int) := by omega
        by_cases hg : i < (fr us).length ∧ (left < 0 ∨ (i : Int) < left)
        · obtain ⟨hg1, hg2⟩ := hg
          have T := Lib.hid (take_calls S1.out (leftN_ne hg2) (fr_of_drop hg1))
          have TS := Lib.hid (take_set hg1)
          have LS := Lib.hid (leftN_succ L0.out hg2)
          have TL := Lib.hid (List.take_succ_eq_append_getElem hg1)
          have RL := Lib.hid (show ((fr us).take i).length = i by rw [List.length_take]; omega)
          have X5 : Hid ((fr us).length ≤ 512) := N0
          generalize (fr us)[i] = x at *
          have HG : Hid (i + 1 ≤ (fr us).length ∧ (left < 0 ∨ ((i + 1 : Nat) : Int) ≤ left)) := ⟨hg1, by omega⟩
          clear hg1 hg2
          go_upto_region 14 with (go_at_call 11; refine T.out.mono ?_; rintro e w2 ⟨rfl, F2, s2, k2, f2⟩; have S2 := Lib.hid s2; have K2 := Lib.hid k2; have F2' := Lib.hid f2; have OA := Lib.hid (one_rowI w2 x); have RA := Lib.hid (sl_below (L1.out.keep k2 (fun g h => h) f2).r (one_rowI w2 x).1); have HBS := Lib.hid (Nat.le_trans (Nat.le_trans K1.out.size k2.size) (one_rowI w2 x).1.size); clear s2 k2 f2)
          rw [RL.out] at RA
          go_wp2_with (at_builtin; refine wpList_append_row encI_one (by rfl) _ _ _ (by rfl) wc.heap.size 3 ii _ 8 Try.underlying31 HI.out HZ.out HSz.out HBy.out (by rfl) _ i _ (by rfl) RA.out _ [x] (by rfl) OA.out.2 (by simp; unfold maxLen; omega) (by simp; omega) HBS.out ?_; intro v5 w5 hown hgrow hat; have FF := Lib.hid (some_step K1.out F1'.out L1.out S2.out K2.out F2'.out (by rw [RL.out]; exact hown) hgrow hat); clear hown hgrow hat)
          all_goals
            rw [TS.out, LS.out, ← TL.out] at FF
            refine ⟨⟨i + 1, by omega, by go_num, HG.out.1, HG.out.2, FF.out⟩, by simp only [intOf]; omega⟩
        · have hil := HIL.out
          have hlf := HLF.out
          have hl0 := L0.out
          have hbad : leftN left i = 0 ∨ fr (setAll us ((fr us).take i) true) = [] := by
            by_cases h1 : i < (fr us).length
            · left
              have h2 : ¬ (left < 0 ∨ (i : Int) < left) := fun h => hg ⟨h1, h⟩
              unfold leftN
              rw [if_neg (by omega)]
              omega
            · right
              rw [fr_setAll us i hil, List.drop_of_length_le (by omega)]
          have hend : i = (fr us).length ∨ (i : Int) = left := by
            by_cases h1 : i < (fr us).length
            · right
              have h2 : ¬ (left < 0 ∨ (i : Int) < left) := fun h => hg ⟨h1, h⟩
              omega
            · left; omega
          have hcan : ¬ canTake us left k := fun h => hg ⟨by have := h.1; omega, by have := h.2; omega⟩
          have T := Lib.hid (take_bad S1.out hbad)
          have RL : ((fr us).take i).length = i := by rw [List.length_take]; omega
          have G0 := Lib.hid (show GivB F B p us (leftN left i) u6 ((fr us).take i) wc 0 wr from ⟨F1, S1.out, K1.out, F1'.out, L1.out⟩)
          have HEND : Hid (i = (fr us).length ∨ (i : Int) = left) := hend
          have HCAN : Hid (¬ canTake us left k) := hcan
          obtain ⟨a, cap, hv⟩ := own_form L1.out.r
          rw [RL] at hv
          subst hv
          have GS := Lib.hid (fun (j : Nat) (hj : j < i) W (h : GivB F B p us (leftN left i) (.slice a i cap) ((fr us).take i) wc j W) => givB_step h (by rw [RL]; exact hj) (takes_false us i) (takes_nodup us i))
          have GE := Lib.hid (fun W (h : GivB F B p us (leftN left i) (.slice a i cap) ((fr us).take i) wc i W) => show PlK F B p us (leftN left i) wc W by
            obtain ⟨F2, s, k, f, L⟩ := h
            rw [List.drop_of_length_le (by rw [RL]; omega)] at s
            exact ⟨F2, s, k, f⟩)
          rw [RL] at GS
          clear hbad hend hcan hg S1 K1 F1' L1 hil hl0 RL hlf
          generalize (fr us).take i = ll at *
          go_upto_region 9 with (go_at_call 11; refine T.out.mono ?_; rintro e w2 ⟨rfl, h2⟩; subst h2)
          clear T
          go_loopw [10, 26] (fun _ vj wx => ∃ j : Nat, j ≤ i ∧ vj = .int .i64 j ∧ GivB F B p us (leftN left i) (.slice a i cap) ll wc j wx) (fun _ vj _ => i - (intOf vj).toNat)
          case atStart => exact ⟨0, Nat.zero_le _, rfl, G0.out⟩
          case round =>
            clear G0
            obtain ⟨j, hj, rfl, h⟩ := hrel
            have HR := Lib.hid h
            clear h
            by_cases hji : j < i
            · have hji0 : (j : Int) < (i : Int) := by omega
              obtain ⟨⟨g, cap2, hv2, cx⟩, cg⟩ := GS.out j hji _ HR.out
              injection hv2 with hv3 _ hv4
              subst hv3; subst hv4
              have CG := Lib.hid cg
              clear cg
              generalize ll.getD j 0 = x at *
              go_wp2_with (go_at_call 13; refine CG.out.mono ?_; rintro e w7 ⟨rfl, h7⟩; have H7 := Lib.hid h7; clear h7)
              all_goals exact ⟨⟨j + 1, by omega, by go_num, H7.out⟩, by simp only [intOf]; omega⟩
            · have e : j = i := by omega
              subst e
              have E := Lib.hid (GE.out _ HR.out)
              go_wp2
              go_ret2
              exact .inr ⟨HCAN.out, rfl, j, HIL.out, HLF.out, HEND.out, E.out⟩
      · have e : i = k := by omega
        subst e
        go_wp2
        go_ret2
        exact .inl ⟨⟨HIL.out, HLF.out⟩, _, rfl, F1, S1.out, K1.out, F1'.out, L1.out⟩
end Go.Proofs.Ytigeadiclajkjaa.Walks
