/- Walks through the functions of the statement, and the statement over them: each contract says what the call answers and that nothing else changes. -/
import Derived.Test.YtajgiolnajneeaaDoorProg
import Derived.Test.YtajgiolnajneeaaDoorWalkLine
import Derived.Test.YtajgiolnajneeaaDoorBits
import Derived.Test.YtajgiolnajneeaaDoorHeap
import Derived.Test.YtajgiolnajneeaaDoorAid
import Derived.Lib.Hide
import Derived.Test.YtajgiolnajneeaaDoorArr
import Derived.Test.YtajgiolnajneeaaDoorEql
import Derived.WalkKit
import Derived.WalkSpells
import Derived.WalkLawsBesides
import Derived.Deep.QuietTactic
import Derived.BigQuiet
import Derived.Deep.RegionHeld3
import Derived.Deep.DeepCutAuto
import Derived.Deep.CutBlock
import Derived.Lib.SlBytesConst
import Derived.StillTailTactics
import Derived.RegionTactic
import Derived.Shelf.Spec.TrailingZeros
namespace Go.Proofs.YtajgiolnajneeaaDoor.Walks
set_option linter.unusedVariables false
set_option linter.unusedSimpArgs false
open Go.RowKit Go.Proofs.YtajgiolnajneeaaDoor.Bits Go.Proofs.YtajgiolnajneeaaDoor.Heap Go.Proofs.YtajgiolnajneeaaDoor.Aid Go.Proofs.YtajgiolnajneeaaDoor.Arr Go.Proofs.YtajgiolnajneeaaDoor.Eql

theorem Own.store {P : Program} {w w1 : World} {b : Nat} {cs : List Value} {t : TypeId} (h : Own w b cs t w1) (vs : List Value) (hl : vs.length = cs.length) (h1 : ∀ v ∈ vs, v.oneCell' = true) :
    (storeCells ⟨b, 0, none⟩ vs).run P w1 = .ok () (w1.setCells b 0 vs) := by
  have ht := h.there (n := vs.length) (by omega)
  exact run_storeCells_cells (P := P) b 0 vs 0 w1 (fun j hj => by simpa using (ht j hj).1) (fun j hj => by simpa using (ht j hj).2) h1
theorem int_bit9 (x m : Nat) : ((x : Int) / 2 ^ m % 2 == 1) = x.testBit m := by
  rw [Bool.eq_iff_iff, Nat.testBit_eq_decide_div_mod_eq, beq_iff_eq]
  have e : (x : Int) / 2 ^ m % 2 = ((x / 2 ^ m % 2 : Nat) : Int) := by simp
  rw [e]; simp; omega
def mk9 (op : Bool) (m : Nat) : Se := { zeroSe with op := op, ma := m }
theorem mk9_ok {op : Bool} {m : Nat} (h : m < 256) : (mk9 op m).Ok := ⟨zero_ok.l, zero_ok.w, zero_ok.s, zero_ok.p, by show m < 2 ^ 32; omega⟩
def open9 (x : Se) : Se := { x with ma := 255, op := true }
theorem open9_ok {x : Se} (h : x.Ok) : (open9 x).Ok := ⟨h.l, h.w, h.s, h.p, by show 255 < 2 ^ 32; omega⟩
theorem masks_all : ∀ op : Bool, ∀ m, m < 256 → ∀ k, k < 8 → nextB (raiseS (mk9 op m) (k : Nat)) = (op && m.testBit k) ∧ (nextB (raiseS (mk9 op m) (k : Nat)) = true → nextN (raiseS (mk9 op m) (k : Nat)) = (k : Nat)) ∧
    nextB (open9 (takeS (raiseS (mk9 op m) (k : Nat)))) = !(op && m.testBit k) ∧ (nextB (open9 (takeS (raiseS (mk9 op m) (k : Nat)))) = true → nextN (open9 (takeS (raiseS (mk9 op m) (k : Nat)))) = (k : Nat)) ∧
    (takeS (open9 (takeS (raiseS (mk9 op m) (k : Nat))))).pe = 0 := by decide +kernel
theorem built2 (op : Bool) (m : Nat) : (zeroSe.cells.set 25 (.int .u32 (m : Int))).set 22 (.bool op) = (mk9 op m).cells := by kernel_rfl
set_option maxHeartbeats 2000000 in
set_option maxRecDepth 100000 in
theorem lineMasks_walk (a0 a1 : Int) (op : Bool) (w : World) (w0 : (Lit.int .u8 a0).wf = true) (w1 : (Lit.int .u8 a1).wf = true) (hT : TabAt 0 Lib.deBruijn64tab w) :
    Calls Tryd.prog 7 #[.int .u8 a0, .int .u8 a1, .bool op] w fun e w' => e = .returned (.bool true) ∧ Below w.heap.size w w' := by
  obtain ⟨n, rfl, hn⟩ := wf_u8 w0
  obtain ⟨m, rfl, hm⟩ := wf_u8 w1
  obtain ⟨k, hk⟩ : ∃ k, n % 8 = k := ⟨_, rfl⟩
  have hk8 : k < 8 := by omega
  have hki : (n : Int) % 8 = (k : Int) := by omega
  obtain ⟨A1', A2', A3', A4', A5⟩ := masks_all op m hm k hk8
  have ok1 := Lib.hid (mk9_ok (op := op) hm)
  have ok2 := Lib.hid (raise_ok ok1.out (k : Nat))
  have ok3 := Lib.hid (open9_ok (take_ok ok2.out))
  have HR := Lib.hid (raise_calls _ ok1.out (k : Nat))
  have HT1 := Lib.hid (take_calls _ ok2.out)
  have HT2 := Lib.hid (take_calls _ ok3.out)
  have ok5 := Lib.hid (take_ok ok3.out)
  have G5 := Lib.hid ok5.out.g24
  have S3 := Lib.hid ((take_ok ok2.out).s25 255)
  have T25 := Lib.hid (take_ok ok2.out).g25
  have T22 := Lib.hid (take_ok ok2.out).g22
  have k25 : ({ takeS (raiseS (mk9 op m) (k : Nat)) with ma := 255 } : Se).Ok := ⟨(take_ok ok2.out).l, (take_ok ok2.out).w, (take_ok ok2.out).s, (take_ok ok2.out).p, by show 255 < 2 ^ 32; omega⟩
  have S4 := Lib.hid (k25.s22 true)
  have OP := Lib.hid (show ({ ({ takeS (raiseS (mk9 op m) (k : Nat)) with ma := 255 } : Se) with op := true } : Se).cells = (open9 (takeS (raiseS (mk9 op m) (k : Nat)))).cells from rfl)
  rw [A5] at G5
  have HI := Lib.hid (info_se ok1.out)
  have HO := Lib.hid (Se.one (mk9 op m))
  have HB := Lib.hid (built2 op m)
  have HZL := Lib.hid zero_ok.len
  have HXL := Lib.hid ok1.out.len
  have C3 := Lib.hid (S4.out.trans OP.out)
  clear k25 S4 OP A5
  generalize takeS (open9 (takeS (raiseS (mk9 op m) (k : Nat)))) = x5 at *
  generalize hc4 : (open9 (takeS (raiseS (mk9 op m) (k : Nat)))).cells = C4 at *
  generalize (({ takeS (raiseS (mk9 op m) (k : Nat)) with ma := 255 } : Se).cells) = C35 at *
  generalize nextB (open9 (takeS (raiseS (mk9 op m) (k : Nat)))) = b2 at *
  generalize nextN (open9 (takeS (raiseS (mk9 op m) (k : Nat)))) = n2 at *
  generalize (takeS (raiseS (mk9 op m) (k : Nat))).cells = C3' at *
  generalize ((takeS (raiseS (mk9 op m) (k : Nat))).ma : Int) = tm at *
  generalize (takeS (raiseS (mk9 op m) (k : Nat))).op = top at *
  generalize nextB (raiseS (mk9 op m) (k : Nat)) = b1 at *
  generalize nextN (raiseS (mk9 op m) (k : Nat)) = n1 at *
  generalize (raiseS (mk9 op m) (k : Nat)).cells = C2 at *
  clear ok2 ok3 ok5
  have hz := zero_val
  generalize (mk9 op m).cells = XC at *
  generalize zeroSe.cells = ZC at *
  have hzs : ZC.toArray.size = 26 := by simpa using HZL.out
  have hzn : ¬ ZC.toArray = #[] := fun h => by rw [h] at hzs; simp at hzs
  have HT := Lib.hid hT
  have B1 := int_bit9 m k
  have hq0 : 0 ≤ (m : Int) / 2 ^ k := Int.ediv_nonneg (by omega) (Int.pow_nonneg (by omega))
  have hm0 : 0 ≤ (m : Int) := by omega
  have hm1 : (m : Int) ≤ 255 := by omega
  have hn0 : 0 ≤ (n : Int) := by omega
  have hk0 : 0 ≤ (k : Int) := by omega
  have hk7 : (k : Int) ≤ 7 := by omega
  have A1 := Lib.hid A1'
  clear A1'
  have A2 := Lib.hid A2'
  clear A2'
  have A3 := Lib.hid A3'
  clear A3'
  have A4 := Lib.hid A4'
  clear A4'
  clear hT hc4 w0 w1 hk hn
  generalize m.testBit k = bit at *
  generalize (m : Int) = mi at *
  generalize (n : Int) = ni at *
  have fin : Hid (∀ op bit : Bool, True) := fun _ _ => trivial
  go_enter Tryd.func7, Tryd.ntmps7
  go_upto_region 2 with (go_at_call 10; refine (awake_calls _ HT.out).mono ?_; rintro e wa ⟨rfl, ua⟩)
  go_upto_region 3 with (fail)
  have BA := Lib.hid ua
  clear ua
  have Z1 := Lib.hid (Own.newL BA.out ZC (26 : Nat))
  have Z2 := Lib.hid (Z1.out.setAll ((ZC.set 25 (.int .u32 mi)).set 22 (.bool op)) (by simp))
  rw [← HB.out] at HO
  have hst := Z1.out.store (P := Tryd.prog) ((ZC.set 25 (.int .u32 mi)).set 22 (.bool op)) (by simp) HO.out
  go_upto_region 5 with (fail)
  simp only [hst]
  go_upto_region 5 with (fail)
  clear hst
  generalize World.setCells _ _ _ _ = w1 at *
  rw [HB.out] at Z2
  go_upto_region 6 with (go_at_call 9; refine (HR.out _ _ Z2.out.k).mono ?_; rintro e w2 ⟨rfl, u2⟩; have Z3 := Lib.hid (Z2.out.upd u2); clear u2)
  go_upto_region 7 with (go_at_call 13; refine (HT1.out _ _ Z3.out.k (tab_below HT.out Z3.out.bel)).mono ?_; rintro e w3 ⟨rfl, u3⟩; have Z4 := Lib.hid (Z3.out.upd u3); clear u3)
  generalize wa.heap.size = N at *
  by_cases hb : (op && bit) = true
  · have e2 := A2.out (A1.out.trans hb)
    have e1 : b1 = true := A1.out.trans hb
    have e3 : b2 = false := by rw [A3.out, hb]; rfl
    simp only [Bool.and_eq_true] at hb
    obtain ⟨h1, h2⟩ := hb
    subst h1 h2 e1 e2 e3
    go_upto_region 10 with (fail)
    have c25 := Z4.out.cell T25.out
    have c22 := Z4.out.cell T22.out
    have f25 := Z4.out.fro 25
    have f22 := Z4.out.fro 22
    go_upto_region 12 with (fail)
    have Z6 := Lib.hid ((Z4.out.set 25 (.int .u32 255)).set 22 (.bool true))
    rw [show C3'.set 25 (.int .u32 255) = C35 from S3.out, C3.out] at Z6
    generalize World.setCell _ _ _ = w6 at *
    clear c25 c22 f25 f22
    go_upto_region 13 with (go_at_call 13; refine (HT2.out _ _ Z6.out.k (tab_below HT.out Z6.out.bel)).mono ?_; rintro e w7 ⟨rfl, u7⟩; have Z7 := Lib.hid (Z6.out.upd u7); clear u7)
    have c24 := Z7.out.cell G5.out
    rw [show ((0 : Nat) : Int) = 0 from rfl] at c24
    go_wp2
    go_ret
    exact ⟨rfl, Z7.out.bel⟩
  · have e1 : b1 = false := by rw [A1.out]; exact (Bool.not_eq_true _).mp hb
    have e3 : b2 = true := by rw [A3.out, (Bool.not_eq_true _).mp hb]; rfl
    have e4 := A4.out e3
    subst e1 e3 e4
    cases op
    · go_upto_region 10 with (fail)
      have c25 := Z4.out.cell T25.out
      have c22 := Z4.out.cell T22.out
      have f25 := Z4.out.fro 25
      have f22 := Z4.out.fro 22
      go_upto_region 12 with (fail)
      have Z6 := Lib.hid ((Z4.out.set 25 (.int .u32 255)).set 22 (.bool true))
      rw [show C3'.set 25 (.int .u32 255) = C35 from S3.out, C3.out] at Z6
      generalize World.setCell _ _ _ = w6 at *
      clear c25 c22 f25 f22
      go_upto_region 13 with (go_at_call 13; refine (HT2.out _ _ Z6.out.k (tab_below HT.out Z6.out.bel)).mono ?_; rintro e w7 ⟨rfl, u7⟩; have Z7 := Lib.hid (Z6.out.upd u7); clear u7)
      have c24 := Z7.out.cell G5.out
      rw [show ((0 : Nat) : Int) = 0 from rfl] at c24
      go_wp2
      go_ret
      exact ⟨rfl, Z7.out.bel⟩
    · have h2 : bit = false := by simpa using hb
      subst h2
      go_upto_region 10 with (fail)
      have c25 := Z4.out.cell T25.out
      have c22 := Z4.out.cell T22.out
      have f25 := Z4.out.fro 25
      have f22 := Z4.out.fro 22
      go_upto_region 12 with (fail)
      have Z6 := Lib.hid ((Z4.out.set 25 (.int .u32 255)).set 22 (.bool true))
      rw [show C3'.set 25 (.int .u32 255) = C35 from S3.out, C3.out] at Z6
      generalize World.setCell _ _ _ = w6 at *
      clear c25 c22 f25 f22
      go_upto_region 13 with (go_at_call 13; refine (HT2.out _ _ Z6.out.k (tab_below HT.out Z6.out.bel)).mono ?_; rintro e w7 ⟨rfl, u7⟩; have Z7 := Lib.hid (Z6.out.upd u7); clear u7)
      have c24 := Z7.out.cell G5.out
      rw [show ((0 : Nat) : Int) = 0 from rfl] at c24
      go_wp2
      go_ret
      exact ⟨rfl, Z7.out.bel⟩
end Go.Proofs.YtajgiolnajneeaaDoor.Walks
