/- Walks through the functions of the statement, and the statement over them: each contract says what the call answers and that nothing else changes. -/
import Derived.Test.YtimafpigfdpnpaaProg
import Derived.Test.YtimafpigfdpnpaaWalkOwner
import Derived.Test.YtimafpigfdpnpaaBits
import Derived.Test.YtimafpigfdpnpaaHeap
import Derived.Test.YtimafpigfdpnpaaAid
import Derived.Lib.Hide
import Derived.Test.YtimafpigfdpnpaaArr
import Derived.Test.YtimafpigfdpnpaaEql
import Derived.WalkKit
import Derived.WalkSpells
import Derived.WalkLawsBesides
import Derived.Deep.QuietTactic
import Derived.BigQuiet
import Derived.Deep.RegionHeld3
import Derived.Deep.DeepCutAuto
import Derived.Deep.CutBlock
import Derived.Lib.SlBytesConst
import Derived.StillTailTactics
import Derived.Laws.MakeOwn
import Derived.RegionTactic
namespace Go.Proofs.Ytimafpigfdpnpaa.Walks
set_option linter.unusedVariables false
set_option linter.unusedSimpArgs false
open Go.RowKit Go.Proofs.Ytimafpigfdpnpaa.Bits Go.Proofs.Ytimafpigfdpnpaa.Heap Go.Proofs.Ytimafpigfdpnpaa.Aid Go.Proofs.Ytimafpigfdpnpaa.Arr Go.Proofs.Ytimafpigfdpnpaa.Eql

/-- A book of the call's own. -/
structure Ob (w : World) (p q : Nat) (l : List Ow) (w' : World) : Prop where
  bel : Below w.heap.size w w'
  n : w.heap.size ≤ q
  k : Bk w' p q l
theorem Ob.bu {w w1 w2 : World} {p q : Nat} {l l' : List Ow} (h : Ob w p q l w1) (u : Bu p q l' w1 w2) : Ob w p q l' w2 := ⟨Keep.belowB h.bel u.k h.bel.size (fun i hi e => by have := h.n; omega), h.n, u.b⟩
theorem Ob.step {w w1 w2 : World} {p q : Nat} {l : List Ow} (h : Ob w p q l w1) (hb : Below w1.heap.size w1 w2) : Ob w p q l w2 := ⟨h.bel.trans (hb.mono h.bel.size), h.n, h.k.below hb⟩
theorem Ob.new {w w1 w2 : World} {p : Nat} {l : List Ow} (hb : Below w.heap.size w w1) (k : Bk w2 p w1.heap.size l) (hb2 : Below w1.heap.size w1 w2) : Ob w p w1.heap.size l w2 := ⟨hb.trans (hb2.mono hb.size), hb.size, k⟩
theorem at_set {l : List Ow} {f : Nat} (hf : f < l.length) (y : Ow) : (l.set f y)[f]? = some y := by simp [hf]
theorem free_at {c f : Nat} (hf : f < c) : (List.replicate c freeOw)[f]? = some freeOw := by simp [hf]
set_option maxHeartbeats 2000000 in
theorem awake_calls (w : World) : Calls Try.prog 7 #[] w fun e w' => e = .returned (.bool true) ∧ Below w.heap.size w w' := by
  have HD := Lib.hid (fun W p q (h : Bk W p q (List.replicate 5 freeOw)) => donate_calls h 3 (free_at (c := 5) (f := 3) (by omega)) 0 7)
  have e1 : donE freeOw 0 7 = 0 := by decide
  have e2 : donL (List.replicate 5 freeOw) 3 freeOw 0 7 = (List.replicate 5 freeOw).set 3 ⟨3, 0, 7, 0⟩ := by decide
  rw [e1, e2] at HD
  have HS := Lib.hid (fun W p q (h : Bk W p q ((List.replicate 5 freeOw).set 3 ⟨3, 0, 7, 0⟩)) => share_calls h 3 (at_set (by simp) _) 0 (by decide) (by simp) (by simp))
  rw [List.set_set] at HS
  have HR := Lib.hid (fun W p q (h : Bk W p q ((List.replicate 5 freeOw).set 3 ⟨3, 0, 7, 0 + 1⟩)) => reclaim_used h 3 (at_set (by simp) _) 0 (by decide) (by simp))
  have HC := Lib.hid (fun W p q (h : Bk W p q ((List.replicate 5 freeOw).set 3 ⟨3, 0, 7, 0 + 1⟩)) => count_calls h 3 0)
  have e3 : cntW 3 0 ((List.replicate 5 freeOw).set 3 ⟨3, 0, 7, 0 + 1⟩) = 1 := by decide
  rw [e3] at HC
  clear e1 e2 e3
  generalize (List.replicate 5 freeOw).set 3 ⟨3, 0, 7, 0 + 1⟩ = l2 at *
  generalize (List.replicate 5 freeOw).set 3 ⟨3, 0, 7, 0⟩ = l1 at *
  have HN := Lib.hid (new_calls 5 w)
  rw [show (min (max (5 : Int) 0) 512).toNat = 5 from rfl] at HN
  generalize List.replicate 5 freeOw = l0 at *
  go_enter Try.func7, Try.ntmps7
  go_wp2_with (first | (go_at_call 8; refine HN.out.mono ?_; rintro e w1 ⟨rfl, k1, b1⟩; have B1 := Lib.hid (Ob.new (Below.refl _ _) k1 b1); clear k1 b1) | (go_at_call 9; refine (HD.out _ _ _ B1.out.k).mono ?_; rintro e w2 ⟨rfl, u2⟩; have B2 := Lib.hid (B1.out.bu u2); clear u2) | (go_at_call 10; refine (HS.out _ _ _ B2.out.k).mono ?_; rintro e w3 ⟨rfl, u3⟩; have B3 := Lib.hid (B2.out.bu u3); clear u3) | (go_at_call 11; refine (HR.out _ _ _ B3.out.k).mono ?_; rintro e w4 ⟨rfl, rfl⟩) | (go_at_call 13; refine (HC.out _ _ _ B3.out.k).mono ?_; rintro e w5 ⟨rfl, u5⟩; have B5 := Lib.hid (B3.out.step u5); clear u5))
  go_ret
  exact ⟨rfl, B5.out.bel⟩
theorem vm_true' {v g : Nat} (hv : v < 6) (hg : g < 32) : vmB (v : Int) (g : Int) = true := by unfold vmB; exact decide_eq_true (by omega)
set_option maxHeartbeats 1000000 in
theorem map2_calls (b : Bool) (w : World) : Calls Try.prog 17 #[.bool b] w fun e w' => e = .returned (.int .i64 (if b = true then 0 else 8)) ∧ w = w' := by
  cases b
  all_goals
    go_enter Try.func17, Try.ntmps17
    go_wp2
    go_ret
    exact ⟨rfl, rfl⟩
set_option maxHeartbeats 4000000 in
theorem ownerOnce_walk (a0 a1 a2 a3 a4 : Int) (w : World) (w0 : (Lit.int .u8 a0).wf = true) (w1 : (Lit.int .u8 a1).wf = true) (w2 : (Lit.int .u8 a2).wf = true) (w3 : (Lit.int .u8 a3).wf = true) (w4 : (Lit.int .u8 a4).wf = true) :
    Calls Try.prog 5 #[.int .u8 a0, .int .u8 a1, .int .u8 a2, .int .u8 a3, .int .u8 a4] w fun e w' => e = .returned (.bool true) ∧ Below w.heap.size w w' := by
  obtain ⟨f, rfl, hf⟩ := wf_u8 w0
  obtain ⟨n1, rfl, hn1⟩ := wf_u8 w1
  obtain ⟨n2, rfl, hn2⟩ := wf_u8 w2
  obtain ⟨n3, rfl, hn3⟩ := wf_u8 w3
  obtain ⟨n4, rfl, hn4⟩ := wf_u8 w4
  obtain ⟨n, hn⟩ : ∃ v, n1 % 6 = v := ⟨_, rfl⟩
  obtain ⟨m, hm⟩ : ∃ v, n2 % 6 = v := ⟨_, rfl⟩
  obtain ⟨p, hp⟩ : ∃ v, n3 % 32 = v := ⟨_, rfl⟩
  obtain ⟨q, hq⟩ : ∃ v, n4 % 32 = v := ⟨_, rfl⟩
  have hn6 : n < 6 := by omega
  have hm6 : m < 6 := by omega
  have hp32 : p < 32 := by omega
  have hq32 : q < 32 := by omega
  have q1 : (n1 : Int) % 6 = (n : Int) := by omega
  have q2 : (n2 : Int) % 6 = (m : Int) := by omega
  have q3 : (n3 : Int) % 32 = (p : Int) := by omega
  have q4 : (n4 : Int) % 32 = (q : Int) := by omega
  have b1 : 0 ≤ (n1 : Int) := by omega
  have b2 : 0 ≤ (n2 : Int) := by omega
  have b3 : 0 ≤ (n3 : Int) := by omega
  have b4 : 0 ≤ (n4 : Int) := by omega
  have hlen : f < (List.replicate 256 freeOw).length := by rw [List.length_replicate]; exact hf
  have e1 : donE freeOw n p = 0 := by unfold donE; rw [vm_true' hn6 hp32]; rfl
  have e2 : donL (List.replicate 256 freeOw) f freeOw n p = (List.replicate 256 freeOw).set f ⟨3, n, p, 0⟩ := by unfold donL; rw [vm_true' hn6 hp32]; rfl
  have HD1 := Lib.hid (fun W pp qq (h : Bk W pp qq (List.replicate 256 freeOw)) => donate_calls h f (free_at (c := 256) hf) n p)
  rw [e1, e2] at HD1
  have e3 : donE ⟨3, n, p, 0⟩ m q = 8 := by unfold donE; rw [vm_true' hm6 hq32]; rfl
  have e4 : donL ((List.replicate 256 freeOw).set f ⟨3, n, p, 0⟩) f ⟨3, n, p, 0⟩ m q = (List.replicate 256 freeOw).set f ⟨3, n, p, 0⟩ := by unfold donL; rw [if_neg (by simp)]
  have HD2 := Lib.hid (fun W pp qq (h : Bk W pp qq ((List.replicate 256 freeOw).set f ⟨3, n, p, 0⟩)) => donate_calls h f (at_set hlen _) m q)
  rw [e3, e4] at HD2
  have HK := Lib.hid (fun W pp qq (h : Bk W pp qq ((List.replicate 256 freeOw).set f ⟨3, n, p, 0⟩)) => keep_used h f (at_set hlen _) m (by omega) (show (3 : Int) ≠ 0 by decide))
  have HN := Lib.hid (new_calls 256)
  rw [show (min (max (256 : Int) 0) 512).toNat = 256 from rfl] at HN
  by_cases hnm : n = m
  · subst hnm
    have HR : Hid (∀ W pp qq, Bk W pp qq ((List.replicate 256 freeOw).set f ⟨3, n, p, 0⟩) → Calls Try.prog 11 #[.pointer (some ⟨pp, 0, none⟩), .int .i64 (f : Int), .int .i64 (n : Int)] W fun e w' => e = .returned (.int .i64 0) ∧ Bu pp qq (List.replicate 256 freeOw) W w') := by
      intro W pp qq h
      have := reclaim_calls h f (at_set hlen _) n (by unfold mineB; exact decide_eq_true ⟨rfl, rfl⟩) rfl
      rw [List.set_set, show (List.replicate 256 freeOw).set f ⟨0, 0, 0, 0⟩ = List.replicate 256 freeOw by rw [show (⟨0, 0, 0, 0⟩ : Ow) = freeOw from rfl, List.set_replicate_self]] at this
      exact this
    have e5 : donE freeOw n q = 0 := by unfold donE; rw [vm_true' hn6 hq32]; rfl
    have HD3 := Lib.hid (fun W pp qq (h : Bk W pp qq (List.replicate 256 freeOw)) => donate_calls h f (free_at (c := 256) hf) n q)
    rw [e5] at HD3
    generalize donL (List.replicate 256 freeOw) f freeOw n q = L3 at *
    clear e1 e2 e3 e4 e5 hlen hm hn hp hq w0 w1 w2 w3 w4
    generalize (List.replicate 256 freeOw).set f ⟨3, n, p, 0⟩ = L1 at *
    generalize List.replicate 256 freeOw = L0 at *
    go_enter Try.func5, Try.ntmps5
    go_upto_region 8 with (first | (go_at_call 7; refine (awake_calls _).mono ?_; rintro e wa ⟨rfl, ua⟩; have BA := Lib.hid ua; clear ua) | (go_at_call 8; refine (HN.out _).mono ?_; rintro e w1 ⟨rfl, k1, b1⟩; have B1 := Lib.hid (Ob.new BA.out k1 b1); clear k1 b1) | (go_at_call 9; refine (HD1.out _ _ _ B1.out.k).mono ?_; rintro e w2 ⟨rfl, u2⟩; have B2 := Lib.hid (B1.out.bu u2); clear u2))
    go_upto_region 9 with (go_at_call 9; refine (HD2.out _ _ _ B2.out.k).mono ?_; rintro e w3 ⟨rfl, u3⟩; have B3 := Lib.hid (B2.out.bu u3); clear u3)
    go_wp2_with (first | (go_at_call 16; refine (HK.out _ _ _ B3.out.k).mono ?_; rintro e w4 ⟨rfl, rfl⟩) | (go_at_call 11; refine (HR.out _ _ _ B3.out.k).mono ?_; rintro e w5 ⟨rfl, u5⟩; have B5 := Lib.hid (B3.out.bu u5); clear u5) | (go_at_call 9; refine (HD3.out _ _ _ B5.out.k).mono ?_; rintro e w6 ⟨rfl, u6⟩; have B6 := Lib.hid (B5.out.bu u6); clear u6) | (go_at_call 17; refine (map2_calls _ _).mono ?_; rintro e w7 ⟨rfl, rfl⟩))
    go_ret
    exact ⟨rfl, B6.out.bel⟩
  · have hne : ((n : Int) == (m : Int)) = false := by simp; omega
    have HR : Hid (∀ W pp qq, Bk W pp qq ((List.replicate 256 freeOw).set f ⟨3, n, p, 0⟩) → Calls Try.prog 11 #[.pointer (some ⟨pp, 0, none⟩), .int .i64 (f : Int), .int .i64 (m : Int)] W fun e w' => e = .returned (.int .i64 7) ∧ W = w') := by
      intro W pp qq h
      exact reclaim_fail _ _ _ 7 rfl W (mine_not h f (at_set hlen _) m (by unfold mineB; exact decide_eq_false (by intro h; have := h.2; simp at this; omega)))
    clear e1 e2 e3 e4 hlen hm hn hp hq w0 w1 w2 w3 w4 hnm
    generalize (List.replicate 256 freeOw).set f ⟨3, n, p, 0⟩ = L1 at *
    generalize List.replicate 256 freeOw = L0 at *
    go_enter Try.func5, Try.ntmps5
    go_upto_region 8 with (first | (go_at_call 7; refine (awake_calls _).mono ?_; rintro e wa ⟨rfl, ua⟩; have BA := Lib.hid ua; clear ua) | (go_at_call 8; refine (HN.out _).mono ?_; rintro e w1 ⟨rfl, k1, b1⟩; have B1 := Lib.hid (Ob.new BA.out k1 b1); clear k1 b1) | (go_at_call 9; refine (HD1.out _ _ _ B1.out.k).mono ?_; rintro e w2 ⟨rfl, u2⟩; have B2 := Lib.hid (B1.out.bu u2); clear u2))
    go_upto_region 9 with (go_at_call 9; refine (HD2.out _ _ _ B2.out.k).mono ?_; rintro e w3 ⟨rfl, u3⟩; have B3 := Lib.hid (B2.out.bu u3); clear u3)
    go_wp2_with (first | (go_at_call 16; refine (HK.out _ _ _ B3.out.k).mono ?_; rintro e w4 ⟨rfl, rfl⟩) | (go_at_call 11; refine (HR.out _ _ _ B3.out.k).mono ?_; rintro e w5 ⟨rfl, rfl⟩) | (go_at_call 9; refine (HD2.out _ _ _ B3.out.k).mono ?_; rintro e w6 ⟨rfl, u6⟩; have B6 := Lib.hid (B3.out.bu u6); clear u6) | (go_at_call 17; refine (map2_calls _ _).mono ?_; rintro e w7 ⟨rfl, rfl⟩))
    go_ret
    exact ⟨rfl, B6.out.bel⟩
end Go.Proofs.Ytimafpigfdpnpaa.Walks
