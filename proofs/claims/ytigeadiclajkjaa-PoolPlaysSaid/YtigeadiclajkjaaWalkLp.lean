/- Walks through the functions of the statement, and the statement over them: each contract says what the call answers and that nothing else changes. -/
import Derived.Test.YtigeadiclajkjaaProg
import Derived.Laws.BytesString
import Derived.Test.YtigeadiclajkjaaBits
import Derived.Test.YtigeadiclajkjaaHeap
import Derived.Test.YtigeadiclajkjaaAid
import Derived.Lib.Hide
import Derived.Test.YtigeadiclajkjaaArr
import Derived.Test.YtigeadiclajkjaaEql
import Derived.Test.YtigeadiclajkjaaWalkHeap
import Derived.Test.YtigeadiclajkjaaWalkHeap2
import Derived.Test.YtigeadiclajkjaaWalkPool
import Derived.Test.YtigeadiclajkjaaWalkNew
import Derived.WalkKit
import Derived.WalkSpells
import Derived.WalkLawsBesides
import Derived.Deep.QuietTactic
import Derived.BigQuiet
import Derived.Deep.RegionHeld3
import Derived.Deep.DeepCutAuto
import Derived.Deep.CutBlock
import Derived.Lib.SlBytesConst
import Derived.StillTailTactics
import Derived.Laws.MakeOwn
import Derived.Deep.AppendLies
import Derived.Laws.CopyOwn
import Derived.Maps.AppendAt
import Derived.Deep.Upon
import Derived.Deep.AppendSrc
import Derived.RegionTactic
import Derived.Deep.RegionLaw
import Derived.Shelf.Abstract
namespace Go.Proofs.Ytigeadiclajkjaa.Walks
set_option linter.unusedVariables false
set_option linter.unusedSimpArgs false
open Go.RowKit Go.Proofs.Ytigeadiclajkjaa.Bits Go.Proofs.Ytigeadiclajkjaa.Heap Go.Proofs.Ytigeadiclajkjaa.Aid Go.Proofs.Ytigeadiclajkjaa.Arr Go.Proofs.Ytigeadiclajkjaa.Eql

theorem own_mono {w : World} {B B' : Nat} {e : TypeId} {size : Nat} {v : Value} {n : Nat} {xs : List Value} (h : w.ownsRow B e size v n xs) (hb : B' ≤ B) : w.ownsRow B' e size v n xs := by
  refine ⟨h.1, ?_⟩
  rcases h.2 with h0 | ⟨g, cap, cur, hv, hg, hr⟩
  · exact .inl h0
  · exact .inr ⟨g, cap, cur, hv, Nat.le_trans hb hg, hr⟩
/-- A pool of the statement's own, all else as it was at w0. -/
def LP (w0 : World) (p : Nat) (us : List Bool) (left : Int) (w : World) : Prop := ∃ F, Pl F w0.heap.size p us left w ∧ Below w0.heap.size w0 w
theorem lp_of {w0 w w' : World} {F : Nat → Prop} {p : Nat} {us us' : List Bool} {left left' : Int} (s : Pl F w0.heap.size p us left w) (b : Below w0.heap.size w0 w) (k : PlK F w0.heap.size p us' left' w w') : LP w0 p us' left' w' := by
  obtain ⟨F', a, k, _⟩ := k
  exact ⟨F', a, Keep.belowB b k b.size (fun i hi e => by have := s.ge i e; omega)⟩
theorem LP.take {w0 w : World} {p x : Nat} {r : List Nat} {us : List Bool} {left : Int} (s : LP w0 p us left w) (h0 : left ≠ 0) (hx : fr us = x :: r) :
    Calls Try.prog 11 #[.pointer (some ⟨p, 0, none⟩)] w fun e w' => e = .returned (.tuple #[.int .i64 (x : Int), .int .i64 0]) ∧ LP w0 p (us.set x true) (decL left) w' := by
  obtain ⟨F, s, b⟩ := s
  refine (take_calls s h0 hx).mono ?_
  rintro e w' ⟨rfl, k⟩
  exact ⟨rfl, lp_of s b k⟩
theorem LP.takeBad {w0 w : World} {p : Nat} {us : List Bool} {left : Int} (s : LP w0 p us left w) (hb : left = 0 ∨ fr us = []) :
    Calls Try.prog 11 #[.pointer (some ⟨p, 0, none⟩)] w fun e w' => e = .returned (.tuple #[.int .i64 0, .int .i64 3]) ∧ w' = w := by
  obtain ⟨F, s, b⟩ := s
  exact take_bad s hb
theorem LP.give {w0 w : World} {p x : Nat} {us : List Bool} {left : Int} (s : LP w0 p us left w) (hx : us[x]? = some true) :
    Calls Try.prog 13 #[.pointer (some ⟨p, 0, none⟩), .int .i64 (x : Int)] w fun e w' => e = .returned (.int .i64 0) ∧ LP w0 p (us.set x false) left w' := by
  obtain ⟨F, s, b⟩ := s
  refine (give_calls s x hx).mono ?_
  rintro e w' ⟨rfl, k⟩
  exact ⟨rfl, lp_of s b k⟩
theorem LP.left {w0 w : World} {p : Nat} {us : List Bool} {left : Int} (s : LP w0 p us left w) :
    Calls Try.prog 10 #[.pointer (some ⟨p, 0, none⟩)] w fun e w' => e = .returned (.int .i64 ((fr us).length : Int)) ∧ w' = w := by
  obtain ⟨F, s, b⟩ := s
  exact left_calls s
theorem LP.new (n : Int) (k : Nat) (hk : k = (min (max n 0) 512).toNat) {w0 w : World} (b : Below w0.heap.size w0 w) : Calls Try.prog 9 #[.int .i64 n] w fun e w' => ∃ p, e = .returned (.pointer (some ⟨p, 0, none⟩)) ∧ LP w0 p (List.replicate k false) (-1) w' := by
  refine (new_calls n k hk w).mono ?_
  rintro e w' ⟨rfl, b2, F, s⟩
  have hs := b.size
  exact ⟨_, rfl, F, ⟨by obtain ⟨vf, vu, h, P, r⟩ := s.ex; exact ⟨vf, vu, h, ⟨P.c, own_mono P.rf hs, own_mono P.ru hs, P.nf, P.nu, P.nn⟩, r⟩, s.fp, s.lt, fun i hi => Nat.le_trans hs (s.ge i hi), s.n, s.l0, s.l1⟩, b.trans (b2.mono hs)⟩
set_option maxHeartbeats 4000000 in
theorem awake_calls (w : World) : Calls Try.prog 8 #[] w fun e w' => e = .returned (.bool true) ∧ Below w.heap.size w w' := by
  have N0 := Lib.hid (LP.new 3 3 (by rfl) (Below.refl w.heap.size w))
  have T1 := Lib.hid (fun p W (h : LP w p (List.replicate 3 false) (-1) W) => LP.take (x := 0) (r := [1, 2]) h (by decide) (by rfl))
  have T2 := Lib.hid (fun p W (h : LP w p ((List.replicate 3 false).set 0 true) (decL (-1)) W) => LP.take (x := 1) (r := [2]) h (by decide) (by rfl))
  have T3 := Lib.hid (fun p W (h : LP w p (((List.replicate 3 false).set 0 true).set 1 true) (decL (decL (-1))) W) => LP.give (x := 0) h (by rfl))
  have T4 := Lib.hid (fun p W (h : LP w p ((((List.replicate 3 false).set 0 true).set 1 true).set 0 false) (decL (decL (-1))) W) => LP.take (x := 0) (r := [2]) h (by decide) (by rfl))
  have T5 := Lib.hid (fun p W (h : LP w p (((((List.replicate 3 false).set 0 true).set 1 true).set 0 false).set 0 true) (decL (decL (decL (-1)))) W) => LP.left h)
  rw [show (fr (((((List.replicate 3 false).set 0 true).set 1 true).set 0 false).set 0 true)).length = 1 by rfl] at T5
  generalize List.replicate 3 false = u0 at *
  generalize u0.set 0 true = u1 at *
  generalize u1.set 1 true = u2 at *
  generalize u2.set 0 false = u3 at *
  generalize u3.set 0 true = u4 at *
  generalize decL (-1) = l1 at *
  generalize decL l1 = l2 at *
  generalize decL l2 = l3 at *
  go_enter Try.func8, Try.ntmps8
  go_upto_region 2 with (go_at_call 9; refine N0.out.mono ?_; rintro e w1 ⟨p, rfl, h⟩; have C := Lib.hid (T1.out _ _ h); clear h)
  clear N0 T1
  go_upto_region 3 with (go_at_call 11; refine C.out.mono ?_; rintro e w2 ⟨rfl, h⟩; have D := Lib.hid (T2.out _ _ h); clear h)
  clear C T2
  go_upto_region 4 with (go_at_call 11; refine D.out.mono ?_; rintro e w3 ⟨rfl, h⟩; have C := Lib.hid (T3.out _ _ h); clear h)
  clear D T3
  go_upto_region 5 with (go_at_call 13; refine C.out.mono ?_; rintro e w4 ⟨rfl, h⟩; have D := Lib.hid (T4.out _ _ h); clear h)
  clear C T4
  go_upto_region 6 with (go_at_call 11; refine D.out.mono ?_; rintro e w5 ⟨rfl, h⟩; have C := Lib.hid (T5.out _ _ h); have BB := Lib.hid h)
  clear D T5
  go_wp2_with (go_at_call 10; refine C.out.mono ?_; rintro e w6 ⟨rfl, h6⟩; subst h6)
  go_ret
  obtain ⟨_, _, b⟩ := BB.out
  exact ⟨rfl, b⟩
theorem set_rep (k i : Nat) (h : i < k) : (List.replicate i true ++ List.replicate (k - i) false).set i true = List.replicate (i + 1) true ++ List.replicate (k - (i + 1)) false := by
  have e : k - i = (k - (i + 1)) + 1 := by omega
  rw [e, List.replicate_succ, List.replicate_succ', List.append_assoc]
  rw [List.set_append_right _ _ (by simp)]
  simp
theorem fr_app (i m : Nat) : fr (List.replicate i true ++ List.replicate m false) = List.range' i m := by
  induction m generalizing i with
  | zero =>
    simp only [List.replicate_zero, List.append_nil, List.range'_zero]
    unfold fr
    rw [List.filter_eq_nil_iff]
    intro a ha
    rw [List.mem_range, List.length_replicate] at ha
    simp [List.getD_eq_getElem?_getD, ha]
  | succ m ih =>
    have h := fr_take (List.replicate i true ++ List.replicate (m + 1) false) i
    have hs := set_rep (i + (m + 1)) i (by omega)
    rw [show i + (m + 1) - i = m + 1 by omega, show i + (m + 1) - (i + 1) = m by omega] at hs
    rw [hs, ih (i + 1)] at h
    have hm : i ∈ fr (List.replicate i true ++ List.replicate (m + 1) false) := fr_mem.2 (by simp [List.getElem?_append_right])
    have hp := List.perm_cons_erase hm
    rw [← h] at hp
    have hsort := fr_sorted (List.replicate i true ++ List.replicate (m + 1) false)
    have hs2 : (i :: List.range' (i + 1) m).Pairwise (· < ·) := by
      have := List.pairwise_lt_range' (s := i) (n := m + 1)
      rw [List.range'_succ] at this
      exact this
    rw [List.range'_succ]
    exact List.Perm.eq_of_pairwise (fun a b _ _ h1 h2 => by omega) hsort hs2 hp
end Go.Proofs.Ytigeadiclajkjaa.Walks
