/- Walks through the functions of the statement, and the statement over them: each contract says what the call answers and that nothing else changes. -/
import Derived.Test.YtimafpigfdpnpaaProg
import Derived.Test.YtimafpigfdpnpaaWalkOwner
import Derived.Test.YtimafpigfdpnpaaBits
import Derived.Test.YtimafpigfdpnpaaHeap
import Derived.Test.YtimafpigfdpnpaaAid
import Derived.Lib.Hide
import Derived.Test.YtimafpigfdpnpaaArr
import Derived.Test.YtimafpigfdpnpaaEql
import Derived.WalkKit
import Derived.WalkSpells
import Derived.WalkLawsBesides
import Derived.Deep.QuietTactic
import Derived.BigQuiet
import Derived.Deep.RegionHeld3
import Derived.Deep.DeepCutAuto
import Derived.Deep.CutBlock
import Derived.Lib.SlBytesConst
import Derived.StillTailTactics
import Derived.Laws.MakeOwn
import Derived.RegionTactic
namespace Go.Proofs.Ytimafpigfdpnpaa.Walks
set_option linter.unusedVariables false
set_option linter.unusedSimpArgs false
open Go.RowKit Go.Proofs.Ytimafpigfdpnpaa.Bits Go.Proofs.Ytimafpigfdpnpaa.Heap Go.Proofs.Ytimafpigfdpnpaa.Aid Go.Proofs.Ytimafpigfdpnpaa.Arr Go.Proofs.Ytimafpigfdpnpaa.Eql

/-- A book of the call's own. -/
structure Ob (w : World) (p q : Nat) (l : List Ow) (w' : World) : Prop where
  bel : Below w.heap.size w w'
  n : w.heap.size ≤ q
  k : Bk w' p q l
theorem Ob.bu {w w1 w2 : World} {p q : Nat} {l l' : List Ow} (h : Ob w p q l w1) (u : Bu p q l' w1 w2) : Ob w p q l' w2 := ⟨Keep.belowB h.bel u.k h.bel.size (fun i hi e => by have := h.n; omega), h.n, u.b⟩
theorem Ob.step {w w1 w2 : World} {p q : Nat} {l : List Ow} (h : Ob w p q l w1) (hb : Below w1.heap.size w1 w2) : Ob w p q l w2 := ⟨h.bel.trans (hb.mono h.bel.size), h.n, h.k.below hb⟩
theorem Ob.new {w w1 w2 : World} {p : Nat} {l : List Ow} (hb : Below w.heap.size w w1) (k : Bk w2 p w1.heap.size l) (hb2 : Below w1.heap.size w1 w2) : Ob w p w1.heap.size l w2 := ⟨hb.trans (hb2.mono hb.size), hb.size, k⟩
theorem at_set {l : List Ow} {f : Nat} (hf : f < l.length) (y : Ow) : (l.set f y)[f]? = some y := by simp [hf]
theorem free_at {c f : Nat} (hf : f < c) : (List.replicate c freeOw)[f]? = some freeOw := by simp [hf]
set_option maxHeartbeats 2000000 in
theorem awake_calls (w : World) : Calls Try.prog 7 #[] w fun e w' => e = .returned (.bool true) ∧ Below w.heap.size w w' := by
  have HD := Lib.hid (fun W p q (h : Bk W p q (List.replicate 5 freeOw)) => donate_calls h 3 (free_at (c := 5) (f := 3) (by omega)) 0 7)
  have e1 : donE freeOw 0 7 = 0 := by decide
  have e2 : donL (List.replicate 5 freeOw) 3 freeOw 0 7 = (List.replicate 5 freeOw).set 3 ⟨3, 0, 7, 0⟩ := by decide
  rw [e1, e2] at HD
  have HS := Lib.hid (fun W p q (h : Bk W p q ((List.replicate 5 freeOw).set 3 ⟨3, 0, 7, 0⟩)) => share_calls h 3 (at_set (by simp) _) 0 (by decide) (by simp) (by simp))
  rw [List.set_set] at HS
  have HR := Lib.hid (fun W p q (h : Bk W p q ((List.replicate 5 freeOw).set 3 ⟨3, 0, 7, 0 + 1⟩)) => reclaim_used h 3 (at_set (by simp) _) 0 (by decide) (by simp))
  have HC := Lib.hid (fun W p q (h : Bk W p q ((List.replicate 5 freeOw).set 3 ⟨3, 0, 7, 0 + 1⟩)) => count_calls h 3 0)
  have e3 : cntW 3 0 ((List.replicate 5 freeOw).set 3 ⟨3, 0, 7, 0 + 1⟩) = 1 := by decide
  rw [e3] at HC
  clear e1 e2 e3
  generalize (List.replicate 5 freeOw).set 3 ⟨3, 0, 7, 0 + 1⟩ = l2 at *
  generalize (List.replicate 5 freeOw).set 3 ⟨3, 0, 7, 0⟩ = l1 at *
  have HN := Lib.hid (new_calls 5 w)
  rw [show (min (max (5 : Int) 0) 512).toNat = 5 from rfl] at HN
  generalize List.replicate 5 freeOw = l0 at *
  go_enter Try.func7, Try.ntmps7
  go_wp2_with (first | (go_at_call 8; refine HN.out.mono ?_; rintro e w1 ⟨rfl, k1, b1⟩; have B1 := Lib.hid (Ob.new (Below.refl _ _) k1 b1); clear k1 b1) | (go_at_call 9; refine (HD.out _ _ _ B1.out.k).mono ?_; rintro e w2 ⟨rfl, u2⟩; have B2 := Lib.hid (B1.out.bu u2); clear u2) | (go_at_call 10; refine (HS.out _ _ _ B2.out.k).mono ?_; rintro e w3 ⟨rfl, u3⟩; have B3 := Lib.hid (B2.out.bu u3); clear u3) | (go_at_call 11; refine (HR.out _ _ _ B3.out.k).mono ?_; rintro e w4 ⟨rfl, rfl⟩) | (go_at_call 13; refine (HC.out _ _ _ B3.out.k).mono ?_; rintro e w5 ⟨rfl, u5⟩; have B5 := Lib.hid (B3.out.step u5); clear u5))
  go_ret
  exact ⟨rfl, B5.out.bel⟩
set_option maxHeartbeats 1000000 in
theorem count_nil (kind n : Int) (w : World) : Calls Try.prog 13 #[.pointer none, .int .u8 kind, .int .i64 n] w fun e w' => e = .returned (.int .i64 0) ∧ w = w' := by
  go_enter Try.func13, Try.ntmps13
  go_wp2
  go_ret
  exact ⟨rfl, rfl⟩
set_option maxHeartbeats 1000000 in
theorem twin_nil (w : World) : Calls Try.prog 14 #[.pointer none] w fun e w' => e = .returned (.pointer none) ∧ w = w' := by
  go_enter Try.func14, Try.ntmps14
  go_wp2
  go_ret
  exact ⟨rfl, rfl⟩
set_option maxHeartbeats 2000000 in
theorem ownerNil_walk (f n pg : Int) (w : World) (w0 : (Lit.int .i64 f).wf = true) (w1 : (Lit.int .i64 n).wf = true) (w2 : (Lit.int .i64 pg).wf = true) :
    Calls Try.prog 6 #[.int .i64 f, .int .i64 n, .int .i64 pg] w fun e w' => e = .returned (.bool true) ∧ Below w.heap.size w w' := by
  have HG := Lib.hid (fun W => get_fail (.pointer none) f W (fun W => row_nil f W))
  have HD := Lib.hid (fun W => donate_fail (.pointer none) f n pg W (row_nil f W))
  have HK := Lib.hid (fun W => keep_fail (.pointer none) f n W (row_nil f W))
  have HRel := Lib.hid (fun W => release_fail (.pointer none) f W (row_nil f W))
  have hm := fun W => mine_fail (.pointer none) f n W (row_nil f W)
  have HS := Lib.hid (fun W => share_fail (.pointer none) f n 1 rfl W (hm W))
  have HU := Lib.hid (fun W => unshare_fail (.pointer none) f n 1 rfl W (hm W))
  have HRc := Lib.hid (fun W => reclaim_fail (.pointer none) f n 1 rfl W (hm W))
  clear hm w0 w1 w2
  go_enter Try.func6, Try.ntmps6
  go_upto_region 3 with (go_at_call 15; refine (HG.out _).mono ?_; rintro e w1 ⟨rfl, u1⟩; have B1 := Lib.hid u1; clear u1)
  have fin : Hid (∀ A : Array Value, Below w.heap.size w (w1.alloc (.cells A (35 : Nat)))) := fun A => B1.out.alloc B1.out.size _
  generalize hw2 : w1.alloc _ = w2 at *
  have B2 : Hid (Below w.heap.size w w2) := by rw [← hw2]; exact fin.out _
  clear hw2 fin B1
  go_wp2_with (first | (go_at_call 7; refine (awake_calls _).mono ?_; rintro e w3 ⟨rfl, u3⟩; have B3 := Lib.hid (B2.out.trans (u3.mono B2.out.size)); clear u3) | (go_at_call 9; refine (HD.out _).mono ?_; rintro e wx ⟨rfl, rfl⟩) | (go_at_call 16; refine (HK.out _).mono ?_; rintro e wx ⟨rfl, rfl⟩) | (go_at_call 10; refine (HS.out _).mono ?_; rintro e wx ⟨rfl, rfl⟩) | (go_at_call 12; refine (HU.out _).mono ?_; rintro e wx ⟨rfl, rfl⟩) | (go_at_call 11; refine (HRc.out _).mono ?_; rintro e wx ⟨rfl, rfl⟩) | (go_at_call 18; refine (HRel.out _).mono ?_; rintro e wx ⟨rfl, rfl⟩) | (go_at_call 13; refine (count_nil _ _ _).mono ?_; rintro e wx ⟨rfl, rfl⟩) | (go_at_call 14; refine (twin_nil _).mono ?_; rintro e wx ⟨rfl, rfl⟩))
  go_ret
  exact ⟨rfl, B3.out⟩
end Go.Proofs.Ytimafpigfdpnpaa.Walks
