/- Walks through the functions of the statement, and the statement over them: each contract says what the call answers and that nothing else changes. -/
import Derived.Test.YtigeadiclajkjaaProg
import Derived.Laws.BytesString
import Derived.Test.YtigeadiclajkjaaBits
import Derived.Test.YtigeadiclajkjaaHeap
import Derived.Test.YtigeadiclajkjaaAid
import Derived.Lib.Hide
import Derived.Test.YtigeadiclajkjaaArr
import Derived.Test.YtigeadiclajkjaaEql
import Derived.Test.YtigeadiclajkjaaWalkHeap
import Derived.Test.YtigeadiclajkjaaWalkHeap2
import Derived.Test.YtigeadiclajkjaaWalkPool
import Derived.Test.YtigeadiclajkjaaWalkNew
import Derived.Test.YtigeadiclajkjaaWalkLp
import Derived.WalkKit
import Derived.WalkSpells
import Derived.WalkLawsBesides
import Derived.Deep.QuietTactic
import Derived.BigQuiet
import Derived.Deep.RegionHeld3
import Derived.Deep.DeepCutAuto
import Derived.Deep.CutBlock
import Derived.Lib.SlBytesConst
import Derived.StillTailTactics
import Derived.Laws.MakeOwn
import Derived.Deep.AppendLies
import Derived.Laws.CopyOwn
import Derived.Maps.AppendAt
import Derived.Deep.Upon
import Derived.Deep.AppendSrc
import Derived.RegionTactic
import Derived.Deep.RegionLaw
import Derived.Shelf.Abstract
namespace Go.Proofs.Ytigeadiclajkjaa.Walks
set_option linter.unusedVariables false
set_option linter.unusedSimpArgs false
open Go.RowKit Go.Proofs.Ytigeadiclajkjaa.Bits Go.Proofs.Ytigeadiclajkjaa.Heap Go.Proofs.Ytigeadiclajkjaa.Aid Go.Proofs.Ytigeadiclajkjaa.Arr Go.Proofs.Ytigeadiclajkjaa.Eql

def allU (k i : Nat) : List Bool := List.replicate i true ++ List.replicate (k - i) false
theorem all_zero (k : Nat) : List.replicate k false = allU k 0 := rfl
theorem all_fr (k i : Nat) : fr (allU k i) = List.range' i (k - i) := fr_app i (k - i)
set_option maxHeartbeats 4000000 in
theorem poolAll_walk (n : Int) (w : World) (hn : (Lit.int .i64 n).wf = true) : Calls Try.prog 3 #[.int .i64 n] w fun e w' => e = .returned (.bool true) ∧ Below w.heap.size w w' := by
  obtain ⟨k, hk⟩ : ∃ k : Nat, k = (min (max n 0) 512).toNat := ⟨_, rfl⟩
  clear hn
  have HK := Lib.hid hk
  have hk5 : k ≤ 512 := by omega
  have hki : (k : Int) ≤ 512 := by omega
  have AW := Lib.hid (awake_calls w)
  have NW := Lib.hid (fun W (b : Below w.heap.size w W) => LP.new (w0 := w) n k hk b)
  have LF := Lib.hid (fun p W (h : LP w p (allU k 0) (-1) W) => by have := LP.left h; rw [all_fr, List.length_range', Nat.sub_zero] at this; exact this)
  have TK := Lib.hid (fun i (hi : i < k) p W (h : LP w p (allU k i) (-1) W) => by
    have := LP.take (x := i) (r := List.range' (i + 1) (k - (i + 1))) h (by decide) (by rw [all_fr, show k - i = (k - (i + 1)) + 1 by omega, List.range'_succ])
    rw [show (allU k i).set i true = allU k (i + 1) from set_rep k i hi, show decL (-1) = -1 from rfl] at this
    exact this)
  have TB := Lib.hid (fun p W (h : LP w p (allU k k) (-1) W) => LP.takeBad h (.inr (by rw [all_fr, Nat.sub_self]; rfl)))
  have LE := Lib.hid (fun p W (h : LP w p (allU k k) (-1) W) => by have := LP.left h; rw [all_fr, List.length_range', Nat.sub_self] at this; exact this)
  rw [all_zero] at NW
  clear hk
  go_enter Try.func3, Try.ntmps3
  go_upto_region 3 with (go_at_call 8; refine AW.out.mono ?_; rintro e w1 ⟨rfl, b1⟩; have N1 := Lib.hid (NW.out _ b1); clear b1)
  clear AW NW
  go_upto_region 4 with (go_at_call 9; refine N1.out.mono ?_; rintro e w2 ⟨p, rfl, h⟩; have H2 := Lib.hid h; have L2 := Lib.hid (LF.out _ _ h); clear h)
  clear N1 LF
  go_cut [4] (fun a wx => a = .int .i64 (k : Int) ∧ wx = w2)
  case first =>
    go_wp2
    all_goals
      go_meet
      have := HK.out
      exact ⟨by congr 1; omega, rfl⟩
  case rest =>
    obtain ⟨rfl, rfl⟩ := hcut
    clear HK
    go_upto_region 8 with (go_at_call 10; refine L2.out.mono ?_; rintro e w6 ⟨rfl, h6⟩; subst h6)
    clear L2
    go_loopw [5] (fun vi wr => ∃ i : Nat, i ≤ k ∧ vi = .int .i64 i ∧ LP w p (allU k i) (-1) wr) (fun vi _ => k - (intOf vi).toNat)
    case atStart => exact ⟨0, Nat.zero_le _, rfl, H2.out⟩
    case round =>
      clear H2
      obtain ⟨i, hi, rfl, h⟩ := hrel
      have HR := Lib.hid h
      clear h
      by_cases hlt : i < k
      · have hlti : (i : Int) < (k : Int) := by omega
        have T := Lib.hid (TK.out i hlt _ _ HR.out)
        clear TK TB LE
        go_wp2_with (go_at_call 11; refine T.out.mono ?_; rintro e w7 ⟨rfl, h7⟩; have H7 := Lib.hid h7; clear h7)
        all_goals exact ⟨⟨i + 1, by omega, by go_num, H7.out⟩, by simp only [intOf]; omega⟩
      · have e : i = k := by omega
        subst e
        have T := Lib.hid (TB.out _ _ HR.out)
        have E := Lib.hid (LE.out _ _ HR.out)
        clear TK TB LE
        go_wp2_with (first
          | (go_at_call 11; refine T.out.mono ?_; rintro e w7 ⟨rfl, h7⟩; subst h7)
          | (go_at_call 10; refine E.out.mono ?_; rintro e w8 ⟨rfl, h8⟩; subst h8))
        go_ret
        obtain ⟨_, _, b⟩ := HR.out
        exact ⟨rfl, b⟩
end Go.Proofs.Ytigeadiclajkjaa.Walks
