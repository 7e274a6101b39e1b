/- Walks through the functions of the statement, and the statement over them: each contract says what the call answers and that nothing else changes. -/
import Derived.Test.YtigeadiclajkjaaProg
import Derived.Laws.BytesString
import Derived.Test.YtigeadiclajkjaaBits
import Derived.Test.YtigeadiclajkjaaHeap
import Derived.Test.YtigeadiclajkjaaAid
import Derived.Lib.Hide
import Derived.Test.YtigeadiclajkjaaArr
import Derived.Test.YtigeadiclajkjaaEql
import Derived.Test.YtigeadiclajkjaaWalkHeap
import Derived.Test.YtigeadiclajkjaaWalkHeap2
import Derived.Test.YtigeadiclajkjaaWalkPool
import Derived.Test.YtigeadiclajkjaaWalkNew
import Derived.Test.YtigeadiclajkjaaWalkLp
import Derived.Test.YtigeadiclajkjaaWalkSome
import Derived.Test.YtigeadiclajkjaaWalkTwin
import Derived.Test.YtigeadiclajkjaaWalkRuns
import Derived.WalkKit
import Derived.WalkSpells
import Derived.WalkLawsBesides
import Derived.Deep.QuietTactic
import Derived.BigQuiet
import Derived.Deep.RegionHeld3
import Derived.Deep.DeepCutAuto
import Derived.Deep.CutBlock
import Derived.Lib.SlBytesConst
import Derived.StillTailTactics
import Derived.Laws.MakeOwn
import Derived.Deep.AppendLies
import Derived.Laws.CopyOwn
import Derived.Maps.AppendAt
import Derived.Deep.Upon
import Derived.Deep.AppendSrc
import Derived.RegionTactic
import Derived.Deep.RegionLaw
import Derived.Shelf.Abstract
namespace Go.Proofs.Ytigeadiclajkjaa.Walks
set_option linter.unusedVariables false
set_option linter.unusedSimpArgs false
open Go.RowKit Go.Proofs.Ytigeadiclajkjaa.Bits Go.Proofs.Ytigeadiclajkjaa.Heap Go.Proofs.Ytigeadiclajkjaa.Aid Go.Proofs.Ytigeadiclajkjaa.Arr Go.Proofs.Ytigeadiclajkjaa.Eql

/-- Two pools that are apart, both of the statement's own. -/
def Tw (w0 : World) (p q : Nat) (us us2 : List Bool) (left left2 : Int) (w : World) : Prop := ∃ F F2, Pl F w0.heap.size p us left w ∧ Pl F2 w0.heap.size q us2 left2 w ∧ (∀ i, F i → ¬ F2 i) ∧ Below w0.heap.size w0 w
theorem Tw.swap {w0 w : World} {p q : Nat} {us us2 : List Bool} {left left2 : Int} (s : Tw w0 p q us us2 left left2 w) : Tw w0 q p us2 us left2 left w := by
  obtain ⟨F, F2, a, b, c, d⟩ := s
  exact ⟨F2, F, b, a, fun i h h2 => c i h2 h, d⟩
theorem tw_of {w0 w w' : World} {F F2 : Nat → Prop} {p q : Nat} {us us' us2 : List Bool} {left left' left2 : Int} (a : Pl F w0.heap.size p us left w) (s2 : Pl F2 w0.heap.size q us2 left2 w) (c : ∀ i, F i → ¬ F2 i) (b : Below w0.heap.size w0 w) (k : PlK F w0.heap.size p us' left' w w') : Tw w0 p q us' us2 left' left2 w' := by
  obtain ⟨F', a', k, h⟩ := k
  refine ⟨F', F2, a', s2.keep k (fun i h2 h1 => c i h1 h2), fun i h1 h2 => ?_, Keep.belowB b k b.size (fun i hi e => by have := a.ge i e; omega)⟩
  rcases h i h1 with h3 | h3
  · exact c i h3 h2
  · have := s2.lt i h2; omega
theorem Tw.lp {w0 w : World} {p q : Nat} {us us2 : List Bool} {left left2 : Int} (s : Tw w0 p q us us2 left left2 w) : LP w0 p us left w := by
  obtain ⟨F, F2, a, b, c, d⟩ := s
  exact ⟨F, a, d⟩
theorem Tw.bel {w0 w : World} {p q : Nat} {us us2 : List Bool} {left left2 : Int} (s : Tw w0 p q us us2 left left2 w) : Below w0.heap.size w0 w := by
  obtain ⟨F, F2, a, b, c, d⟩ := s
  exact d
theorem Tw.take {w0 w : World} {p q x : Nat} {r : List Nat} {us us2 : List Bool} {left left2 : Int} (s : Tw w0 p q us us2 left left2 w) (h0 : left ≠ 0) (hx : fr us = x :: r) :
    Calls Try.prog 11 #[.pointer (some ⟨p, 0, none⟩)] w fun e w' => e = .returned (.tuple #[.int .i64 (x : Int), .int .i64 0]) ∧ Tw w0 p q (us.set x true) us2 (decL left) left2 w' := by
  obtain ⟨F, F2, a, s2, c, b⟩ := s
  refine (take_calls a h0 hx).mono ?_
  rintro e w' ⟨rfl, k⟩
  exact ⟨rfl, tw_of a s2 c b k⟩
theorem Tw.give {w0 w : World} {p q x : Nat} {us us2 : List Bool} {left left2 : Int} (s : Tw w0 p q us us2 left left2 w) (hx : us[x]? = some true) :
    Calls Try.prog 13 #[.pointer (some ⟨p, 0, none⟩), .int .i64 (x : Int)] w fun e w' => e = .returned (.int .i64 0) ∧ Tw w0 p q (us.set x false) us2 left left2 w' := by
  obtain ⟨F, F2, a, s2, c, b⟩ := s
  refine (give_calls a x hx).mono ?_
  rintro e w' ⟨rfl, k⟩
  exact ⟨rfl, tw_of a s2 c b k⟩
theorem LP.giveArg {w0 w : World} {p : Nat} {us : List Bool} {left : Int} (s : LP w0 p us left w) (x : Int) (hx : x < 0 ∨ (us.length : Int) ≤ x) :
    Calls Try.prog 13 #[.pointer (some ⟨p, 0, none⟩), .int .i64 x] w fun e w' => e = .returned (.int .i64 1) ∧ w' = w := by
  obtain ⟨F, a, b⟩ := s
  exact give_arg a x hx
theorem LP.twin {w0 w : World} {p : Nat} {us : List Bool} {left : Int} (s : LP w0 p us left w) :
    Calls Try.prog 16 #[.pointer (some ⟨p, 0, none⟩)] w fun e w' => ∃ q, e = .returned (.pointer (some ⟨q, 0, none⟩)) ∧ Tw w0 p q us us left left w' := by
  obtain ⟨F, a, b⟩ := s
  refine (twin_calls a).mono ?_
  rintro e w' ⟨q, F', rfl, a2, b2⟩
  refine ⟨q, rfl, F, F', a.below b2, ⟨by obtain ⟨vf, vu, h, P, r⟩ := a2.ex; exact ⟨vf, vu, h, ⟨P.c, own_mono P.rf b.size, own_mono P.ru b.size, P.nf, P.nu, P.nn⟩, r⟩, a2.fp, a2.lt, fun i hi => Nat.le_trans b.size (a2.ge i hi), a2.n, a2.l0, a2.l1⟩, fun i h1 h2 => ?_, b.trans (b2.mono b.size)⟩
  have := a.lt i h1
  have := a2.ge i h2
  omega
set_option maxRecDepth 8000 in
set_option maxHeartbeats 8000000 in
theorem poolTwins_walk (a0 a1 m : Int) (w : World) (w0 : (Lit.int .u8 a0).wf = true) (w1 : (Lit.int .u8 a1).wf = true) (w2 : (Lit.int .i64 m).wf = true) :
    Calls Try.prog 7 #[.int .u8 a0, .int .u8 a1, .int .i64 m] w fun e w' => e = .returned (.bool true) ∧ Below w.heap.size w w' := by
  obtain ⟨n, rfl, hn⟩ := wf_u8 w0
  obtain ⟨t, rfl, ht⟩ := wf_u8 w1
  have hni : (n : Int) ≤ 255 := by omega
  have hti : (t : Int) ≤ 255 := by omega
  have AW := Lib.hid (awake_calls w)
  have NW := Lib.hid (fun W (b : Below w.heap.size w W) => LP.new (w0 := w) (n : Int) n (by omega) b)
  clear w0 w1 w2 hn ht
  go_enter Try.func7, Try.ntmps7
  go_upto_region 3 with (go_at_call 8; refine AW.out.mono ?_; rintro e w1 ⟨rfl, b1⟩; have N1 := Lib.hid (NW.out _ b1); clear b1)
  clear AW NW
  go_upto_region 5 with (go_at_call 9; refine N1.out.mono ?_; rintro e w2 ⟨p, rfl, h⟩; have H2 := Lib.hid h; clear h)
  clear N1
  go_loopw [8] (fun vi wr => ∃ (i : Nat) (us : List Bool), i ≤ t ∧ vi = .int .i64 i ∧ us.length = n ∧ LP w p us (-1) wr) (fun vi _ => t - (intOf vi).toNat)
  case atStart => exact ⟨0, _, Nat.zero_le _, rfl, by simp, H2.out⟩
  case round =>
    clear H2
    obtain ⟨i, us, hi, rfl, hul, h⟩ := hrel
    have HR := Lib.hid h
    have HU := Lib.hid hul
    clear h hul
    by_cases hlt : i < t
    · have hlti : (i : Int) < (t : Int) := by omega
      cases hf : fr us with
      | nil =>
        have T := Lib.hid (HR.out.takeBad (.inr hf))
        clear hf
        go_wp2_with (go_at_call 11; refine T.out.mono ?_; rintro e w7 ⟨rfl, h7⟩; subst h7)
        all_goals exact ⟨⟨i + 1, us, by omega, by go_num, HU.out, HR.out⟩, by simp only [intOf]; omega⟩
      | cons x r =>
        have T := Lib.hid (HR.out.take (by decide) hf)
        clear hf
        go_wp2_with (go_at_call 11; refine T.out.mono ?_; rintro e w7 ⟨rfl, h7⟩; have H7 := Lib.hid h7; clear h7)
        all_goals exact ⟨⟨i + 1, _, by omega, by go_num, by rw [List.length_set]; exact HU.out, H7.out⟩, by simp only [intOf]; omega⟩
    · have e : i = t := by omega
      subst e
      have TW := Lib.hid HR.out.twin
      clear HR
      cases hf : fr us with
      | nil =>
        have T1 := Lib.hid (fun W q (h : Tw w p q us us (-1) (-1) W) => h.lp.takeBad (.inr hf))
        have T2 := Lib.hid (fun W q (h : Tw w p q us us (-1) (-1) W) => h.swap.lp.takeBad (.inr hf))
        have G : Hid (∀ W q, Tw w p q us us (-1) (-1) W → Calls Try.prog 13 #[.pointer (some ⟨q, 0, none⟩), .int .i64 0] W fun e w' => ∃ x us2, e = .returned (.int .i64 x) ∧ Tw w p q us us2 (-1) (-1) w') := fun W q h => by
          cases hu : us[0]? with
          | none =>
            have h0 : us.length = 0 := by
              rcases Nat.lt_or_ge 0 us.length with h1 | h1
              · rw [List.getElem?_eq_getElem h1] at hu; cases hu
              · omega
            refine (h.swap.lp.giveArg 0 (.inr (by rw [h0]; decide))).mono ?_
            rintro e w' ⟨rfl, rfl⟩
            exact ⟨1, us, rfl, h⟩
          | some b =>
            cases b with
            | false =>
              have := fr_mem.2 hu
              rw [hf] at this; cases this
            | true =>
              refine (h.swap.give (x := 0) hu).mono ?_
              rintro e w' ⟨rfl, h2⟩
              exact ⟨0, _, rfl, h2.swap⟩
        clear hf
        go_upto_region 9 with (go_at_call 16; refine TW.out.mono ?_; rintro e w3 ⟨q, rfl, h3⟩; have H3 := Lib.hid h3; have C1 := Lib.hid (T1.out _ _ h3); have C2 := Lib.hid (T2.out _ _ h3); have C3 := Lib.hid (G.out _ _ h3); clear h3)
        clear TW T1 T2 G
        go_upto_region 10 with (go_at_call 11; refine C1.out.mono ?_; rintro e w4 ⟨rfl, h4⟩; subst h4)
        clear C1
        go_upto_region 11 with (go_at_call 11; refine C2.out.mono ?_; rintro e w4 ⟨rfl, h4⟩; subst h4)
        clear C2
        go_wp2_with (first
          | (go_at_call 13; refine C3.out.mono ?_; rintro e w5 ⟨x, us2, rfl, h5⟩; have H5 := Lib.hid h5; clear h5 C3)
          | (go_at_call 15; refine (fail_nil _ _).mono ?_; rintro e w6 ⟨rfl, h6⟩; subst h6)
          | (go_at_call 11; refine (take_nil 0 _).mono ?_; rintro e w6 ⟨rfl, h6⟩; subst h6)
          | (go_at_call 12; refine (some_nil _ _).mono ?_; rintro e w6 ⟨rfl, h6⟩; subst h6)
          | (go_at_call 13; refine (give_nil _ _).mono ?_; rintro e w6 ⟨rfl, h6⟩; subst h6)
          | (go_at_call 10; refine (left_nil 0 _).mono ?_; rintro e w6 ⟨rfl, h6⟩; subst h6)
          | (go_at_call 14; refine (used_nil _ _).mono ?_; rintro e w6 ⟨rfl, h6⟩; subst h6)
          | (go_at_call 16; refine (twin_nil 0 _).mono ?_; rintro e w6 ⟨rfl, h6⟩; subst h6))
        go_ret
        exact ⟨rfl, H5.out.bel⟩
      | cons x r =>
        have hx : us[x]? = some false := fr_mem.1 (by rw [hf]; simp)
        have T1 := Lib.hid (fun W q (h : Tw w p q us us (-1) (-1) W) => h.take (by decide) hf)
        have T2 := Lib.hid (fun W q (h : Tw w p q (us.set x true) us (-1) (-1) W) => h.swap.take (by decide) hf)
        have G := Lib.hid (fun W q (h : Tw w q p (us.set x true) (us.set x true) (-1) (-1) W) => h.give (x := x) (by rw [List.getElem?_set_self (some_lt' hx)]))
        have U1 := Lib.hid (fun W q (h : Tw w q p ((us.set x true).set x false) (us.set x true) (-1) (-1) W) => h.swap.lp.used (x := x) (b := true) (by rw [List.getElem?_set_self (some_lt' hx)]))
        have U2 := Lib.hid (fun W q (h : Tw w q p ((us.set x true).set x false) (us.set x true) (-1) (-1) W) => h.lp.used (x := x) (b := false) (by rw [List.getElem?_set_self (by rw [List.length_set]; exact some_lt' hx)]))
        rw [show decL (-1) = -1 from rfl] at T1 T2
        clear hf hx
        generalize us.set x true = us1 at *
        go_upto_region 9 with (go_at_call 16; refine TW.out.mono ?_; rintro e w3 ⟨q, rfl, h3⟩; have C1 := Lib.hid (T1.out _ _ h3); clear h3)
        clear TW T1
        go_upto_region 10 with (go_at_call 11; refine C1.out.mono ?_; rintro e w4 ⟨rfl, h4⟩; have C2 := Lib.hid (T2.out _ _ h4); clear h4)
        clear C1 T2
        go_upto_region 11 with (go_at_call 11; refine C2.out.mono ?_; rintro e w5 ⟨rfl, h5⟩; have C3 := Lib.hid (G.out _ _ h5); clear h5)
        clear C2 G
        go_wp2_with (first
          | (go_at_call 13; refine C3.out.mono ?_; rintro e w6 ⟨rfl, h6⟩; have H6 := Lib.hid h6; have V1 := Lib.hid (U1.out _ _ h6); have V2 := Lib.hid (U2.out _ _ h6); clear h6 C3 U1 U2)
          | (go_at_call 15; refine (fail_nil _ _).mono ?_; rintro e w7 ⟨rfl, h7⟩; subst h7)
          | (go_at_call 11; refine (take_nil 0 _).mono ?_; rintro e w7 ⟨rfl, h7⟩; subst h7)
          | (go_at_call 12; refine (some_nil _ _).mono ?_; rintro e w7 ⟨rfl, h7⟩; subst h7)
          | (go_at_call 14; refine V1.out.mono ?_; rintro e w7 ⟨rfl, h7⟩; subst h7; clear V1)
          | (go_at_call 14; refine V2.out.mono ?_; rintro e w7 ⟨rfl, h7⟩; subst h7; clear V2)
          | (go_at_call 13; refine (give_nil _ _).mono ?_; rintro e w7 ⟨rfl, h7⟩; subst h7)
          | (go_at_call 10; refine (left_nil 0 _).mono ?_; rintro e w7 ⟨rfl, h7⟩; subst h7)
          | (go_at_call 14; refine (used_nil _ _).mono ?_; rintro e w7 ⟨rfl, h7⟩; subst h7)
          | (go_at_call 16; refine (twin_nil 0 _).mono ?_; rintro e w7 ⟨rfl, h7⟩; subst h7))
        go_ret
        exact ⟨rfl, H6.out.bel⟩
end Go.Proofs.Ytigeadiclajkjaa.Walks
