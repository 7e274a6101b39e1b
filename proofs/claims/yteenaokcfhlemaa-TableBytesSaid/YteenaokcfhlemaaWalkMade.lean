/- Walks through the functions of the statement, and the statement over them: each contract says what the call answers and that nothing else changes. -/
import Derived.Test.YteenaokcfhlemaaProg
import Derived.Laws.BytesString
import Derived.Test.YteenaokcfhlemaaBits
import Derived.Test.YteenaokcfhlemaaHeap
import Derived.Test.YteenaokcfhlemaaAid
import Derived.Lib.Hide
import Derived.Test.YteenaokcfhlemaaArr
import Derived.Test.YteenaokcfhlemaaEql
import Derived.Test.YteenaokcfhlemaaWalkPack
import Derived.Test.YteenaokcfhlemaaWalkStore
import Derived.Test.YteenaokcfhlemaaWalkTab
import Derived.Test.YteenaokcfhlemaaWalkMake
import Derived.Test.YteenaokcfhlemaaWalkEnts

import Derived.WalkKit
import Derived.WalkSpells
import Derived.WalkLawsBesides
import Derived.Deep.QuietTactic
import Derived.BigQuiet
import Derived.Deep.RegionHeld3
import Derived.Deep.DeepCutAuto
import Derived.Deep.CutBlock
import Derived.Lib.SlBytesConst
import Derived.StillTailTactics
import Derived.Laws.MakeOwn
import Derived.Deep.AppendLies
import Derived.Laws.CopyOwn
import Derived.Maps.AppendAt
import Derived.Deep.Upon
import Derived.Deep.AppendSrc
import Derived.Maps.AppendAt
import Derived.Deep.Upon
import Derived.Deep.AppendSrc
import Derived.RegionTactic
namespace Go.Proofs.Yteenaokcfhlemaa.Walks
set_option linter.unusedVariables false
set_option linter.unusedSimpArgs false
open Go.RowKit Go.Proofs.Yteenaokcfhlemaa.Bits Go.Proofs.Yteenaokcfhlemaa.Heap Go.Proofs.Yteenaokcfhlemaa.Aid Go.Proofs.Yteenaokcfhlemaa.Arr Go.Proofs.Yteenaokcfhlemaa.Eql

/-- Results: a pointer or number, a variable in memory, a number. -/
theorem results_tct {P : Program} {fn : Func} {r p q : Tmp} {ty : TypeId} (h : fn.results = #[.tmp r, .cell p ty, .tmp q]) (tmps : Array Value) (w : World) (g : Nat) (cs : List Value) (d : TypeDesc)
    (hp : tmps.getD p undef = .pointer (some ⟨g, 0, none⟩)) (hg : w.rangeAt g 0 cs)
    (hu : P.underlying ty = some d) (hd : d.isRow = true) (hi : (P.info? ty).map (·.size) = some cs.length) :
    (results fn tmps).run P w = .ok (.tuple #[tmps.getD r undef, .agg cs.toArray, tmps.getD q undef]) w := by
  have hp' : tmps[p]?.getD undef = .pointer (some ⟨g, 0, none⟩) := by simpa using hp
  simp [results, h, hp', asAddr, run_loadVar_mid w g 0 ty cs d hg hu hd hi]
theorem row_ownsI {w : World} {base : Nat} {e : TypeId} {v : Value} {n : Nat} {l : List Int} (h : w.ownsRow base e 1 v n (l.map encI)) : Row w encI v l := by
  have hl : l.length = n := by have := h.1; simpa using this
  by_cases h0 : 0 < n
  · obtain ⟨g, cap, sp, rfl, _, hc, _, hb⟩ := sl_form h h0
    subst hl
    refine .inr ⟨⟨g, 0, none⟩, cap, rfl, hc, fun i x hi => ?_⟩
    exact news_blk hb i _ (by rw [List.getElem?_map, hi]; rfl)
  · have h1 : n = 0 := by omega
    subst h1
    have h2 : l = [] := List.eq_nil_of_length_eq_zero hl
    subst h2
    rcases h.2 with ⟨hv, _⟩ | ⟨g, cap, cur, hv, _, _, hc, _⟩
    · exact .inl ⟨hv, rfl⟩
    · exact .inr ⟨⟨g, 0, none⟩, cap, hv, hc, fun i x hi => by simp at hi⟩
theorem splice_zero (n a m : Nat) (h : a + m ≤ n) : splice8 (List.replicate n 0) a (List.replicate m 0) = List.replicate n 0 := by
  apply List.ext_getElem?
  intro j
  rw [splice8_get (by rw [List.length_replicate, List.length_replicate]; exact h), List.length_replicate]
  by_cases h1 : j < a
  · rw [if_pos h1]
  · rw [if_neg h1]
    by_cases h2 : j < a + m
    · rw [if_pos h2, List.getElem?_replicate, List.getElem?_replicate, if_pos (by omega), if_pos (by omega)]
    · rw [if_neg h2]
theorem wd_savK {L : List Nat} {f : Int} {f0 : Nat} {fs : List Int} (hf0 : f0 < L.length / 256) : ∀ {k : Nat}, k ≤ 4 → ∀ k' i', i' < 32 → wd (savK L f f0 fs k) k' i' = if k' = f0 ∧ i' < k then packN f true (fs.getD (i' + 1) 0) true else wd L k' i' := by
  intro k
  induction k with
  | zero => intro _ k' i' _; rw [if_neg (by omega)]; rfl
  | succ k ih =>
    intro hk k' i' hi'
    rw [savK, wd_put (by rw [savK_len hf0 (by omega)]; exact hf0) (by omega) (packN_lt _ _ _ _) k' i' hi', ih (by omega) k' i' hi']
    by_cases h1 : k' = f0 ∧ i' = k
    · obtain ⟨rfl, rfl⟩ := h1
      rw [if_pos ⟨rfl, rfl⟩, if_pos ⟨rfl, by omega⟩]
    · rw [if_neg h1]
      by_cases h2 : k' = f0 ∧ i' < k
      · rw [if_pos h2, if_pos ⟨h2.1, by omega⟩]
      · rw [if_neg h2, if_neg (by omega)]
def fr5 : List Int := [3, 4, 5, 6, 7]
def L6 (f : Int) : List Nat := savK (clrK (List.replicate 10240 0) fr5 5) f 3 fr5 4
theorem clr0 (k : Nat) (hk : k ≤ 5) : clrK (List.replicate 10240 0) fr5 k = List.replicate 10240 0 := by
  induction k with
  | zero => rfl
  | succ k ih =>
    rw [clrK, ih (by omega)]
    apply splice_zero
    have : (fr5.getD k 0).toNat ≤ 7 := by
      rcases (by omega : k = 0 ∨ k = 1 ∨ k = 2 ∨ k = 3 ∨ k = 4) with rfl | rfl | rfl | rfl | rfl <;> decide
    omega
theorem L6_len (f : Int) : (L6 f).length = 10240 := by
  unfold L6
  rw [clr0 5 (by omega), savK_len (by rw [List.length_replicate]; omega) (by omega), List.length_replicate]
theorem L6_wd (f : Int) (k i : Nat) (hi : i < 32) : wd (L6 f) k i = if k = 3 ∧ i < 4 then packN f true ((4 + i : Nat) : Int) true else 0 := by
  unfold L6
  rw [clr0 5 (by omega), wd_savK (by rw [List.length_replicate]; omega) (by omega) k i hi, wd_zero]
  by_cases h : k = 3 ∧ i < 4
  · rw [if_pos h, if_pos h]
    congr 1
    rcases (by omega : i = 0 ∨ i = 1 ∨ i = 2 ∨ i = 3) with rfl | rfl | rfl | rfl <;> rfl
  · rw [if_neg h, if_neg h]
/-- Frames of a table, whatever is stored. -/
def FrP (q : Nat) (fv : Value) (w : World) : Prop := ∀ wx, Keep (fun i => i = q) w wx → Row wx encI fv fr5
theorem FrP.keep {q : Nat} {fv : Value} {w w' : World} (h : FrP q fv w) (k : Keep (fun i => i = q) w w') : FrP q fv w' := fun wx k2 => h wx (k.trans k2)
theorem FrP.below {q : Nat} {fv : Value} {w w' : World} (h : FrP q fv w) (k : Below w.heap.size w w') : FrP q fv w' := h.keep (Keep.of_below k)
theorem FrP.row {q : Nat} {fv : Value} {w : World} (h : FrP q fv w) : Row w encI fv fr5 := h w (Keep.refl _ _)
def MadeP (w : World) (f : Int) (e : Ending) (w' : World) : Prop := ∃ (q : Nat) (a : Option Addr) (cap : Nat), e = .returned (.tuple #[.pointer (some ⟨q + 1, 0, none⟩), .agg #[.int .i64 f, .slice a 5 cap], .bool true]) ∧ Os w (q + 1) q (L6 f) w' ∧ FrP q (.slice a 5 cap) w'
theorem Os.setB {w w1 : World} {p q b : Nat} {l : List Nat} (h : Os w p q l w1) (hb : w.heap.size ≤ b) (hp : p ≠ b) (hq : q ≠ b) (x y : Value) : Os w p q l ((w1.setCell ⟨b, 0, none⟩ x).setCell ⟨b, 1, none⟩ y) :=
  ⟨(h.bel.setCell (p := ⟨b, 0, none⟩) hb x).setCell (p := ⟨b, 1, none⟩) hb y, h.n, (h.k.setCell hp hq 0 x).setCell hp hq 1 y⟩
theorem Os.drew1 {w w1 : World} {p q : Nat} {l : List Nat} (h : Os w p q l w1) : Os w p q l w1.drew := ⟨below_drewN h.bel 1, h.n, ⟨h.k.hp, h.k.hq, h.k.ne, h.k.le, h.k.bt⟩⟩
set_option maxHeartbeats 4000000 in
theorem made_calls (n : Nat) (hn : n < 256) (w : World) : Calls Try.prog 11 #[.int .u8 (n : Int)] w (MadeP w (1 + (n : Int) % 2)) := by
  have FC := Lib.hid (fun W => form_calls n hn W)
  obtain ⟨f, hf⟩ : ∃ f : Int, 1 + (n : Int) % 2 = f := ⟨_, rfl⟩
  have hf2 : f = 1 ∨ f = 2 := by omega
  rw [hf] at FC ⊢
  have R1 := Lib.hid (Own.new (Below.refl _ w) #[.int .i64 0, .slice none 0 0] 35)
  have NW := Lib.hid (fun W => new_calls 40 W)
  rw [show 256 * (min (max (40 : Int) 0) 512).toNat = 10240 from rfl] at NW
  have HF := Lib.hid hf2
  have LL := Lib.hid (show savK (clrK (List.replicate 10240 0) fr5 5) f 3 fr5 4 = L6 f from rfl)
  clear hf hf2 hn
  generalize (n : Int) = ni at *
  go_enter Try.func11, Try.ntmps11
  go_upto_region 1 with (fail)
  generalize w.alloc _ = w1 at *
  go_upto_region 2 with (go_at_call 17; refine (NW.out _).mono ?_; rintro e w2 ⟨rfl, k2, b2⟩; have O2 := Lib.hid (Os.new R1.out.bel k2 b2); have R2 := Lib.hid (R1.out.step b2); clear k2 b2)
  have B5 := Lib.hid ((Below.refl w2.heap.size w2).alloc (Nat.le_refl _) (.cells #[.int .i64 3, .int .i64 4, .int .i64 5, .int .i64 6, .int .i64 7] 3))
  have O3 := Lib.hid (O2.out.step B5.out)
  have R3 := Lib.hid (R2.out.step B5.out)
  have K3 : Hid (Blk (w2.alloc (.cells #[.int .i64 3, .int .i64 4, .int .i64 5, .int .i64 6, .int .i64 7] 3)) w2.heap.size (fr5.map encI) 3) := Blk.new w2 #[.int .i64 3, .int .i64 4, .int .i64 5, .int .i64 6, .int .i64 7] 3
  have QS : Hid (w1.heap.size < w2.heap.size) := O2.out.k.qlt
  have RL : Hid (w.heap.size < w1.heap.size) := R1.out.lt
  have MK := Lib.hid (make_calls O3.out.k f HF.out (.slice (some ⟨w2.heap.size, 0, none⟩) 5 5) fr5 (fun wx hk => Row.of_blk (l := fr5) (K3.out.keep hk (by have := QS.out; omega))) rfl)
  have MK2 : Hid (∀ W p q fv, Calls Try.prog 18 #[.pointer (some ⟨p, 0, none⟩), .int .i64 f, fv] W (MakeP W p q (List.replicate 10240 0) f fr5) → Calls Try.prog 18 #[.pointer (some ⟨p, 0, none⟩), .int .i64 f, fv] W fun e w' => ∃ a cap, e = .returned (.tuple #[.agg #[.int .i64 f, .slice a 5 cap], .int .i64 0]) ∧ Su p q (L6 f) W w' ∧ w'.ownsRow W.heap.size 3 1 (.slice a 5 cap) 5 (fr5.map encI)) := by
    intro W p q fv h
    refine h.mono ?_
    rintro e w' (⟨⟨k, hk, hno⟩, _⟩ | ⟨_, v, rfl, hu, ho⟩)
    · exfalso
      apply hno
      unfold frOk
      rw [List.length_replicate]
      rcases (by omega : k = 0 ∨ k = 1 ∨ k = 2 ∨ k = 3 ∨ k = 4) with rfl | rfl | rfl | rfl | rfl <;> decide
    · obtain ⟨a, cap, rfl⟩ := own_form ho
      exact ⟨a, cap, rfl, hu, ho⟩
  have MK3 := Lib.hid (MK2.out _ _ _ _ MK.out)
  clear O2 R1 R2 B5 NW MK2 MK
  go_upto_region 3 with (go_at_call 7; refine (FC.out _).mono ?_; rintro e w' ⟨rfl, rfl⟩)
  generalize w2.alloc _ = w3 at *
  generalize w1.heap.size = SQ at *
  have K3b : Hid (w2.heap.size < w3.heap.size) := K3.out.lt
  refine MK3.out.mono ?_
  rintro e w4 ⟨a4, c4, rfl, u4, ho4⟩
  have O4 := Lib.hid (O3.out.su u4)
  have R4 := Lib.hid (R3.out.keep u4.k (by have := QS.out; have := RL.out; omega) (fun i hi e => by have := RL.out; omega))
  have N4 := Lib.hid ho4
  clear u4 ho4 MK3 O3 R3
  go_upto_region 3 with (fail)
  have O5 := Lib.hid (O4.out.step ((Below.refl _ _).alloc (Nat.le_refl _) (.cells #[.int .i64 f, .slice a4 5 c4] 35)))
  have R5 := Lib.hid (R4.out.alloc (.cells #[.int .i64 f, .slice a4 5 c4] 35))
  have T5 := Lib.hid (Own.new O4.out.bel #[.int .i64 f, .slice a4 5 c4] 35)
  have N5 := Lib.hid (sl_below N4.out ((Below.refl _ _).alloc (Nat.le_refl _) (.cells #[.int .i64 f, .slice a4 5 c4] 35)))
  have RLT : Hid (w.heap.size < w4.heap.size) := R4.out.lt
  have NB : Hid (w2.heap.size < w3.heap.size ∧ SQ < w2.heap.size ∧ w.heap.size < SQ) := ⟨K3b.out, QS.out, RL.out⟩
  clear O4 R4 N4 K3 K3b QS RL
  generalize w4.alloc _ = w5 at *
  generalize w4.heap.size = NT at *
  generalize w3.heap.size = N3 at *
  have t0 := T5.out.cell (i := 0) rfl
  have t1 := T5.out.cell (i := 1) rfl
  have e0 := R5.out.cell (i := 0) rfl
  have e1 := R5.out.cell (i := 1) rfl
  have f0 := R5.out.fro 0
  have f1 := R5.out.fro 1
  have TS := Lib.hid ((T5.out.setO (show w.heap.size ≠ NT by have := RLT.out; omega) (Nat.le_refl _) 0 (.int .i64 f)).setO (show w.heap.size ≠ NT by have := RLT.out; omega) (Nat.le_refl _) 1 (.slice a4 5 c4))
  have ts0 := TS.out.cell (i := 0) rfl
  have ts1 := TS.out.cell (i := 1) rfl
  have RS := Lib.hid ((R5.out.set 0 (.int .i64 f)).set 1 (.slice a4 5 c4))
  have OS := Lib.hid (O5.out.setB (b := w.heap.size) (Nat.le_refl _) (by have := NB.out; omega) (by have := NB.out; omega) (.int .i64 f) (.slice a4 5 c4))
  have FS : Hid (FrP SQ (.slice a4 5 c4) ((w5.setCell ⟨w.heap.size, 0, none⟩ (.int .i64 f)).setCell ⟨w.heap.size, 1, none⟩ (.slice a4 5 c4))) := by
    intro wx hk
    have GE := own_ge N5.out
    have h := sl_keep N5.out (((Keep.refl (fun i => i = w.heap.size) w5).setCell (p := ⟨w.heap.size, 0, none⟩) (fun _ => rfl) (.int .i64 f)).setCell (p := ⟨w.heap.size, 1, none⟩) (fun _ => rfl) (.slice a4 5 c4)) (fun g e e2 => by have := GE g e; have := NB.out; omega)
    exact row_ownsI (sl_keep h hk (fun g e e2 => by have := GE g e; have := NB.out; omega))
  go_region
  all_goals
    go_wp2_with fail
    exact bodyPost_ret (v := .tuple #[.pointer (some ⟨SQ + 1, 0, none⟩), .agg #[.int .i64 f, .slice a4 5 c4], .bool true]) (results_tct Try.results11 _ _ w.heap.size [.int .i64 f, .slice a4 5 c4] _ rfl RS.out.all Try.underlying35 rfl (by kernel_rfl)) rfl ⟨SQ, a4, c4, rfl, OS.out.drew1, fun wx hk => FS.out wx ((Keep.refl _ _).trans ⟨hk.os, hk.tape, hk.output, hk.size, hk.block⟩)⟩
end Go.Proofs.Yteenaokcfhlemaa.Walks
