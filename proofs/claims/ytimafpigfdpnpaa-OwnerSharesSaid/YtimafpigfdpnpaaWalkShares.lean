/- Walks through the functions of the statement, and the statement over them: each contract says what the call answers and that nothing else changes. -/
import Derived.Test.YtimafpigfdpnpaaProg
import Derived.Test.YtimafpigfdpnpaaWalkOwner
import Derived.Test.YtimafpigfdpnpaaBits
import Derived.Test.YtimafpigfdpnpaaHeap
import Derived.Test.YtimafpigfdpnpaaAid
import Derived.Lib.Hide
import Derived.Test.YtimafpigfdpnpaaArr
import Derived.Test.YtimafpigfdpnpaaEql
import Derived.WalkKit
import Derived.WalkSpells
import Derived.WalkLawsBesides
import Derived.Deep.QuietTactic
import Derived.BigQuiet
import Derived.Deep.RegionHeld3
import Derived.Deep.DeepCutAuto
import Derived.Deep.CutBlock
import Derived.Lib.SlBytesConst
import Derived.StillTailTactics
import Derived.Laws.MakeOwn
import Derived.RegionTactic
namespace Go.Proofs.Ytimafpigfdpnpaa.Walks
set_option linter.unusedVariables false
set_option linter.unusedSimpArgs false
open Go.RowKit Go.Proofs.Ytimafpigfdpnpaa.Bits Go.Proofs.Ytimafpigfdpnpaa.Heap Go.Proofs.Ytimafpigfdpnpaa.Aid Go.Proofs.Ytimafpigfdpnpaa.Arr Go.Proofs.Ytimafpigfdpnpaa.Eql

/-- A book of the call's own. -/
structure Ob (w : World) (p q : Nat) (l : List Ow) (w' : World) : Prop where
  bel : Below w.heap.size w w'
  n : w.heap.size ≤ q
  k : Bk w' p q l
theorem Ob.bu {w w1 w2 : World} {p q : Nat} {l l' : List Ow} (h : Ob w p q l w1) (u : Bu p q l' w1 w2) : Ob w p q l' w2 := ⟨Keep.belowB h.bel u.k h.bel.size (fun i hi e => by have := h.n; omega), h.n, u.b⟩
theorem Ob.step {w w1 w2 : World} {p q : Nat} {l : List Ow} (h : Ob w p q l w1) (hb : Below w1.heap.size w1 w2) : Ob w p q l w2 := ⟨h.bel.trans (hb.mono h.bel.size), h.n, h.k.below hb⟩
theorem Ob.new {w w1 w2 : World} {p : Nat} {l : List Ow} (hb : Below w.heap.size w w1) (k : Bk w2 p w1.heap.size l) (hb2 : Below w1.heap.size w1 w2) : Ob w p w1.heap.size l w2 := ⟨hb.trans (hb2.mono hb.size), hb.size, k⟩
theorem at_set {l : List Ow} {f : Nat} (hf : f < l.length) (y : Ow) : (l.set f y)[f]? = some y := by simp [hf]
theorem free_at {c f : Nat} (hf : f < c) : (List.replicate c freeOw)[f]? = some freeOw := by simp [hf]
set_option maxHeartbeats 2000000 in
theorem awake_calls (w : World) : Calls Try.prog 7 #[] w fun e w' => e = .returned (.bool true) ∧ Below w.heap.size w w' := by
  have HD := Lib.hid (fun W p q (h : Bk W p q (List.replicate 5 freeOw)) => donate_calls h 3 (free_at (c := 5) (f := 3) (by omega)) 0 7)
  have e1 : donE freeOw 0 7 = 0 := by decide
  have e2 : donL (List.replicate 5 freeOw) 3 freeOw 0 7 = (List.replicate 5 freeOw).set 3 ⟨3, 0, 7, 0⟩ := by decide
  rw [e1, e2] at HD
  have HS := Lib.hid (fun W p q (h : Bk W p q ((List.replicate 5 freeOw).set 3 ⟨3, 0, 7, 0⟩)) => share_calls h 3 (at_set (by simp) _) 0 (by decide) (by simp) (by simp))
  rw [List.set_set] at HS
  have HR := Lib.hid (fun W p q (h : Bk W p q ((List.replicate 5 freeOw).set 3 ⟨3, 0, 7, 0 + 1⟩)) => reclaim_used h 3 (at_set (by simp) _) 0 (by decide) (by simp))
  have HC := Lib.hid (fun W p q (h : Bk W p q ((List.replicate 5 freeOw).set 3 ⟨3, 0, 7, 0 + 1⟩)) => count_calls h 3 0)
  have e3 : cntW 3 0 ((List.replicate 5 freeOw).set 3 ⟨3, 0, 7, 0 + 1⟩) = 1 := by decide
  rw [e3] at HC
  clear e1 e2 e3
  generalize (List.replicate 5 freeOw).set 3 ⟨3, 0, 7, 0 + 1⟩ = l2 at *
  generalize (List.replicate 5 freeOw).set 3 ⟨3, 0, 7, 0⟩ = l1 at *
  have HN := Lib.hid (new_calls 5 w)
  rw [show (min (max (5 : Int) 0) 512).toNat = 5 from rfl] at HN
  generalize List.replicate 5 freeOw = l0 at *
  go_enter Try.func7, Try.ntmps7
  go_wp2_with (first | (go_at_call 8; refine HN.out.mono ?_; rintro e w1 ⟨rfl, k1, b1⟩; have B1 := Lib.hid (Ob.new (Below.refl _ _) k1 b1); clear k1 b1) | (go_at_call 9; refine (HD.out _ _ _ B1.out.k).mono ?_; rintro e w2 ⟨rfl, u2⟩; have B2 := Lib.hid (B1.out.bu u2); clear u2) | (go_at_call 10; refine (HS.out _ _ _ B2.out.k).mono ?_; rintro e w3 ⟨rfl, u3⟩; have B3 := Lib.hid (B2.out.bu u3); clear u3) | (go_at_call 11; refine (HR.out _ _ _ B3.out.k).mono ?_; rintro e w4 ⟨rfl, rfl⟩) | (go_at_call 13; refine (HC.out _ _ _ B3.out.k).mono ?_; rintro e w5 ⟨rfl, u5⟩; have B5 := Lib.hid (B3.out.step u5); clear u5))
  go_ret
  exact ⟨rfl, B5.out.bel⟩
theorem vm_true {v g : Nat} (hv : v < 6) (hg : g < 32) : vmB (v : Int) (g : Int) = true := by unfold vmB; exact decide_eq_true (by omega)
theorem cnt_free (c : Nat) : cntW 0 0 (List.replicate c freeOw) = c := by
  unfold cntW
  rw [List.filter_eq_self.2]
  · simp
  · intro x hx
    rw [List.mem_replicate] at hx
    rw [hx.2]; rfl
theorem mine_true (v : Int) (g s : Int) : mineB ⟨3, v, g, s⟩ v = true := by unfold mineB; exact decide_eq_true ⟨rfl, rfl⟩
set_option maxHeartbeats 4000000 in
theorem ownerShares_walk (a0 a1 a2 a3 : Int) (w : World) (w0 : (Lit.int .u8 a0).wf = true) (w1 : (Lit.int .u8 a1).wf = true) (w2 : (Lit.int .u8 a2).wf = true) (w3 : (Lit.int .u8 a3).wf = true) :
    Calls Try.prog 3 #[.int .u8 a0, .int .u8 a1, .int .u8 a2, .int .u8 a3] w fun e w' => e = .returned (.bool true) ∧ Below w.heap.size w w' := by
  obtain ⟨f, rfl, hf⟩ := wf_u8 w0
  obtain ⟨n1, rfl, hn1⟩ := wf_u8 w1
  obtain ⟨n2, rfl, hn2⟩ := wf_u8 w2
  obtain ⟨n3, rfl, hn3⟩ := wf_u8 w3
  obtain ⟨v, hv⟩ : ∃ v, n1 % 6 = v := ⟨_, rfl⟩
  obtain ⟨g, hg⟩ : ∃ v, n2 % 32 = v := ⟨_, rfl⟩
  obtain ⟨m, hm⟩ : ∃ v, n3 % 20 = v := ⟨_, rfl⟩
  have hv6 : v < 6 := by omega
  have hg32 : g < 32 := by omega
  have hm20 : m < 20 := by omega
  have q1 : (n1 : Int) % 6 = (v : Int) := by omega
  have q2 : (n2 : Int) % 32 = (g : Int) := by omega
  have q3 : (n3 : Int) % 20 = (m : Int) := by omega
  have b1 : 0 ≤ (n1 : Int) := by omega
  have b2 : 0 ≤ (n2 : Int) := by omega
  have b3 : 0 ≤ (n3 : Int) := by omega
  have e1 : donE freeOw v g = 0 := by unfold donE; rw [vm_true hv6 hg32]; rfl
  have e2 : donL (List.replicate 256 freeOw) f freeOw v g = (List.replicate 256 freeOw).set f ⟨3, v, g, 0⟩ := by unfold donL; rw [vm_true hv6 hg32]; rfl
  have HD := Lib.hid (fun W p q (h : Bk W p q (List.replicate 256 freeOw)) => donate_calls h f (free_at (c := 256) hf) v g)
  rw [e1, e2] at HD
  have hlen : f < (List.replicate 256 freeOw).length := by rw [List.length_replicate]; exact hf
  obtain ⟨L, hL⟩ : ∃ L : Nat → List Ow, ∀ j, L j = (List.replicate 256 freeOw).set f ⟨3, v, g, (j : Int)⟩ := ⟨_, fun _ => rfl⟩
  have HS : Hid (∀ (j : Nat), j < 1000 → ∀ W p q, Bk W p q (L j) → Calls Try.prog 10 #[.pointer (some ⟨p, 0, none⟩), .int .i64 (f : Int), .int .i64 (v : Int)] W fun e w' => e = .returned (.int .i64 0) ∧ Bu p q (L (j + 1)) W w') := by
    intro j hj W p q h
    rw [hL] at h ⊢
    have := share_calls h f (at_set hlen _) v (mine_true _ _ _) (by simp) (show (j : Int) < 1000000 by omega)
    rw [List.set_set] at this
    exact this
  have HU : Hid (∀ (j : Nat), j < 1000 → ∀ W p q, Bk W p q (L (j + 1)) → Calls Try.prog 12 #[.pointer (some ⟨p, 0, none⟩), .int .i64 (f : Int), .int .i64 (v : Int)] W fun e w' => e = .returned (.int .i64 0) ∧ Bu p q (L j) W w') := by
    intro j hj W p q h
    rw [hL] at h ⊢
    have := unshare_calls h f (at_set hlen _) v (mine_true _ _ _) (show (0 : Int) < ((j + 1 : Nat) : Int) by omega) (show ((j + 1 : Nat) : Int) < 1000000 by omega)
    rw [List.set_set] at this
    have e : (((j + 1 : Nat) : Int) - 1) = (j : Int) := by omega
    simp only [e] at this
    exact this
  have HRU : Hid (∀ (j : Nat), ∀ W p q, Bk W p q (L (j + 1)) → Calls Try.prog 11 #[.pointer (some ⟨p, 0, none⟩), .int .i64 (f : Int), .int .i64 (v : Int)] W fun e w' => e = .returned (.int .i64 8) ∧ W = w') := by
    intro j W p q h
    rw [hL] at h
    exact reclaim_used h f (at_set hlen _) v (mine_true _ _ _) (show (0 : Int) < ((j + 1 : Nat) : Int) by omega)
  have HUN : Hid (∀ W p q, Bk W p q (L 0) → Calls Try.prog 12 #[.pointer (some ⟨p, 0, none⟩), .int .i64 (f : Int), .int .i64 (v : Int)] W fun e w' => e = .returned (.int .i64 8) ∧ W = w') := by
    intro W p q h
    rw [hL] at h
    exact unshare_none h f (at_set hlen _) v (mine_true _ _ _) rfl
  have HRC : Hid (∀ W p q, Bk W p q (L 0) → Calls Try.prog 11 #[.pointer (some ⟨p, 0, none⟩), .int .i64 (f : Int), .int .i64 (v : Int)] W fun e w' => e = .returned (.int .i64 0) ∧ Bu p q (List.replicate 256 freeOw) W w') := by
    intro W p q h
    rw [hL] at h
    have := reclaim_calls h f (at_set hlen _) v (mine_true _ _ _) rfl
    rw [List.set_set, show (List.replicate 256 freeOw).set f ⟨0, 0, 0, 0⟩ = List.replicate 256 freeOw by rw [show (⟨0, 0, 0, 0⟩ : Ow) = freeOw from rfl, List.set_replicate_self]] at this
    exact this
  have HC : Hid (∀ W p q, Bk W p q (List.replicate 256 freeOw) → Calls Try.prog 13 #[.pointer (some ⟨p, 0, none⟩), .int .u8 0, .int .i64 0] W fun e w' => e = .returned (.int .i64 256) ∧ Below W.heap.size W w') := by
    intro W p q h
    have := count_calls h 0 0
    rw [cnt_free] at this
    exact this
  have HN := Lib.hid (new_calls 256)
  rw [show (min (max (256 : Int) 0) 512).toNat = 256 from rfl] at HN
  rw [show (List.replicate 256 freeOw).set f ⟨3, v, g, 0⟩ = L 0 from (hL 0).symm] at HD
  clear e1 e2 hlen hv hg hm hv6 hg32 w0 w1 w2 w3 hL
  go_enter Try.func3, Try.ntmps3
  go_upto_region 7 with (first | (go_at_call 7; refine (awake_calls _).mono ?_; rintro e wa ⟨rfl, ua⟩; have BA := Lib.hid ua; clear ua) | (go_at_call 8; refine (HN.out _).mono ?_; rintro e w1 ⟨rfl, k1, b1⟩; have B1 := Lib.hid (Ob.new BA.out k1 b1); clear k1 b1) | (go_at_call 9; refine (HD.out _ _ _ B1.out.k).mono ?_; rintro e w2 ⟨rfl, u2⟩; have B2 := Lib.hid (B1.out.bu u2); clear u2))
  generalize wa.heap.size + 1 = P at *
  generalize wa.heap.size = Q at *
  clear B1 BA HN q1 q2 q3 b1 b2 b3
  go_loopw [13] (fun i wr => ∃ j : Nat, j ≤ m ∧ i = .int .i64 j ∧ Ob w P Q (L j) wr) (fun i _ => m - (intOf i).toNat)
  case atStart => exact ⟨0, by omega, rfl, B2.out⟩
  case round =>
    clear B2
    obtain ⟨j, hj, rfl, b3⟩ := hrel
    have B3 := Lib.hid b3
    clear b3
    by_cases hlt : j < m
    · have HS1 := Lib.hid (HS.out j (by omega))
      go_wp2_with (go_at_call 10; refine (HS1.out _ _ _ B3.out.k).mono ?_; rintro e w4 ⟨rfl, u4⟩; have B4 := Lib.hid (B3.out.bu u4); clear u4)
      go_roundw
      case rel => exact ⟨j + 1, by omega, by go_num, B4.out⟩
      case measure => simp [intOf]; omega
    · obtain rfl : j = m := by omega
      clear hj
      obtain ⟨wo, rfl⟩ : ∃ wo : World, wo = wr := ⟨_, rfl⟩
      go_wp2
      go_loopw [14] (fun i wr => ∃ k : Nat, k ≤ j ∧ i = .int .i64 k ∧ Ob w P Q (L k) wr) (fun i _ => (intOf i).toNat)
      case atStart => exact ⟨j, by omega, rfl, B3.out⟩
      case round =>
        clear B3
        obtain ⟨k, hk, rfl, b4⟩ := hrel
        have B4 := Lib.hid b4
        clear b4
        cases k with
        | succ k =>
          have HU1 := Lib.hid (HU.out k (by omega))
          have HR1 := Lib.hid (HRU.out k)
          have hd : decide ((0 : Int) < ((k + 1 : Nat) : Int)) = true := decide_eq_true (by omega)
          have hs : IntKind.i64.wrap (((k + 1 : Nat) : Int) - 1) = (k : Int) := by rw [IntWalk.i64_in _ (by omega)]; omega
          go_wp2_with (first | (go_at_call 11; refine (HR1.out _ _ _ B4.out.k).mono ?_; rintro e w5 ⟨rfl, rfl⟩) | (go_at_call 12; refine (HU1.out _ _ _ B4.out.k).mono ?_; rintro e w6 ⟨rfl, u6⟩; have B6 := Lib.hid (B4.out.bu u6); clear u6))
          go_roundw
          case rel => exact ⟨k, by omega, by go_num, B6.out⟩
          case measure => simp [intOf]
        | zero =>
          have HUN1 := Lib.hid (HUN.out)
          go_wp2_with (first | (go_at_call 12; refine (HUN.out _ _ _ B4.out.k).mono ?_; rintro e w5 ⟨rfl, rfl⟩) | (go_at_call 11; refine (HRC.out _ _ _ B4.out.k).mono ?_; rintro e w6 ⟨rfl, u6⟩; have B6 := Lib.hid (B4.out.bu u6); clear u6) | (go_at_call 13; refine (HC.out _ _ _ B6.out.k).mono ?_; rintro e w7 ⟨rfl, u7⟩; have B7 := Lib.hid (B6.out.step u7); clear u7))
          go_ret
          exact ⟨rfl, B7.out.bel⟩
end Go.Proofs.Ytimafpigfdpnpaa.Walks
