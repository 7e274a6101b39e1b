/- Walks through the functions of the statement, and the statement over them: each contract says what the call answers and that nothing else changes. -/
import Derived.Test.YtjlodddlbgpcdaaDoorProg
import Derived.Test.YtjlodddlbgpcdaaDoorBits
import Derived.Test.YtjlodddlbgpcdaaDoorHeap
import Derived.Test.YtjlodddlbgpcdaaDoorAid
import Derived.Test.YtjlodddlbgpcdaaDoorArr
import Derived.Test.YtjlodddlbgpcdaaDoorEql
import Derived.Test.YtjlodddlbgpcdaaDoorWalkBase
import Derived.Lib.Hide
import Derived.WalkKit
import Derived.WalkSpells
import Derived.WalkLawsBesides
import Derived.Deep.QuietTactic
import Derived.BigQuiet
import Derived.Deep.RegionHeld3
import Derived.Deep.DeepCutAuto
import Derived.Deep.CutBlock
import Derived.Lib.SlBytesConst
import Derived.StillTailTactics
import Derived.RegionTactic
import Derived.Deep.RegionLaw
import Derived.Laws.BytesString
import Derived.Laws.MakeOwn
import Derived.Deep.AppendLies
import Derived.Laws.CopyOwn
import Derived.Maps.AppendAt
import Derived.Deep.Upon
import Derived.Deep.AppendSrc
import Derived.Shelf.Abstract
import Derived.Shelf.Spec.TrailingZeros
namespace Go.Proofs.YtjlodddlbgpcdaaDoor.Walks
set_option linter.unusedVariables false
set_option linter.unusedSimpArgs false
open Go.RowKit Go.Proofs.YtjlodddlbgpcdaaDoor.Bits Go.Proofs.YtjlodddlbgpcdaaDoor.Heap Go.Proofs.YtjlodddlbgpcdaaDoor.Aid Go.Proofs.YtjlodddlbgpcdaaDoor.Arr Go.Proofs.YtjlodddlbgpcdaaDoor.Eql

/-- A seat: its registers (R, PC, Base, Vec, EPC, Cause, Addr), and the rest. -/
structure Se where
  r : List Nat
  op : Bool
  st : Nat
  pe : Nat
  ma : Nat
deriving DecidableEq
def Se.cells (x : Se) : List Value := x.r.map enc64 ++ [.bool x.op, .int .u8 (x.st : Int), .int .u32 (x.pe : Int), .int .u32 (x.ma : Int)]
structure Se.Ok (x : Se) : Prop where
  l : x.r.length = 22
  w : ∀ y ∈ x.r, y < 2 ^ 64
  s : x.st < 256
  p : x.pe < 2 ^ 32
  m : x.ma < 2 ^ 32
theorem Se.Ok.len {x : Se} (h : x.Ok) : x.cells.length = 26 := by simp [Se.cells, h.l]
theorem Se.Ok.g22 {x : Se} (h : x.Ok) : x.cells[22]? = some (.bool x.op) := by simp [Se.cells, h.l, List.getElem?_append_right]
theorem Se.Ok.g23 {x : Se} (h : x.Ok) : x.cells[23]? = some (.int .u8 (x.st : Int)) := by simp [Se.cells, h.l, List.getElem?_append_right]
theorem Se.Ok.g24 {x : Se} (h : x.Ok) : x.cells[24]? = some (.int .u32 (x.pe : Int)) := by simp [Se.cells, h.l, List.getElem?_append_right]
theorem Se.Ok.g25 {x : Se} (h : x.Ok) : x.cells[25]? = some (.int .u32 (x.ma : Int)) := by simp [Se.cells, h.l, List.getElem?_append_right]
theorem Se.Ok.gr {x : Se} (h : x.Ok) {i : Nat} (hi : i < 22) : x.cells[i]? = some (.int .u64 ((x.r.getD i 0 : Nat) : Int)) := by
  have hl := h.l
  rw [Se.cells, List.getElem?_append_left (by rw [List.length_map, hl]; exact hi), List.getElem?_map, List.getD_eq_getElem?_getD, List.getElem?_eq_getElem (by omega)]; rfl
theorem set_tail (a l : List Value) (n i : Nat) (v : Value) (h : a.length = n) : (a ++ l).set (n + i) v = a ++ l.set i v := by
  rw [List.set_append_right _ _ (by omega), h, Nat.add_sub_cancel_left]
theorem Se.Ok.s22 {x : Se} (h : x.Ok) (v : Bool) : x.cells.set 22 (.bool v) = { x with op := v }.cells := set_tail _ _ 22 0 _ (by simp [h.l])
theorem Se.Ok.s23 {x : Se} (h : x.Ok) (v : Nat) : x.cells.set 23 (.int .u8 (v : Int)) = { x with st := v }.cells := set_tail _ _ 22 1 _ (by simp [h.l])
theorem Se.Ok.s24 {x : Se} (h : x.Ok) (v : Nat) : x.cells.set 24 (.int .u32 (v : Int)) = { x with pe := v }.cells := set_tail _ _ 22 2 _ (by simp [h.l])
theorem Se.Ok.s25 {x : Se} (h : x.Ok) (v : Nat) : x.cells.set 25 (.int .u32 (v : Int)) = { x with ma := v }.cells := set_tail _ _ 22 3 _ (by simp [h.l])
theorem Se.Ok.sr {x : Se} (h : x.Ok) {i : Nat} (hi : i < 22) (v : Nat) : x.cells.set i (.int .u64 (v : Int)) = { x with r := x.r.set i v }.cells := by
  have hl := h.l
  rw [Se.cells, List.set_append_left _ _ (by rw [List.length_map, hl]; exact hi)]
  show _ = (x.r.set i v).map enc64 ++ _
  rw [List.map_set]; rfl
theorem Se.one (x : Se) : ∀ v ∈ x.cells, v.oneCell' = true := by
  intro v hv
  simp only [Se.cells, List.mem_append, List.mem_map, List.mem_cons, List.not_mem_nil, or_false] at hv
  rcases hv with ⟨y, _, rfl⟩ | rfl | rfl | rfl | rfl <;> rfl
def seSh : Sh := .seq (.rep 16 (.int .u64)) (.seq (.int .u64) (.seq (.int .u64) (.seq (.int .u64) (.seq (.int .u64) (.seq (.int .u64) (.seq (.int .u64) (.seq .bool (.seq (.int .u8) (.seq (.int .u32) (.seq (.int .u32) .nil))))))))))
theorem nats64 : ∀ l : List Int, (∀ x ∈ l, (Lit.int .u64 x).wf = true) → ∃ m : List Nat, l.map (Value.int .u64) = m.map enc64 ∧ m.length = l.length ∧ ∀ y ∈ m, y < 2 ^ 64 := by
  intro l
  induction l with
  | nil => exact fun _ => ⟨[], rfl, rfl, by simp⟩
  | cons x l ih =>
    intro h
    obtain ⟨m, e1, e2, e3⟩ := ih (fun y hy => h y (by simp [hy]))
    obtain ⟨n, rfl, hn⟩ := wf_u64 (h x (by simp))
    refine ⟨n :: m, by simp [e1, enc64], by simp [e2], ?_⟩
    intro y hy
    simp only [List.mem_cons] at hy
    rcases hy with rfl | hy
    · exact hn
    · exact e3 y hy
theorem seat_of_fits {w : World} {cs : List Value} (h : Fits w seSh cs) : ∃ x : Se, cs = x.cells ∧ x.Ok := by
  obtain ⟨_, _, rfl, h0, _, _, rfl, ⟨a1, rfl, w1⟩, _, _, rfl, ⟨a2, rfl, w2⟩, _, _, rfl, ⟨a3, rfl, w3⟩, _, _, rfl, ⟨a4, rfl, w4⟩, _, _, rfl, ⟨a5, rfl, w5⟩, _, _, rfl, ⟨a6, rfl, w6⟩,
    _, _, rfl, ⟨op, rfl⟩, _, _, rfl, ⟨st, rfl, ws⟩, _, _, rfl, ⟨pe, rfl, wp⟩, _, _, rfl, ⟨ma, rfl, wm⟩, h9⟩ := h
  simp only [Fits] at h9
  subst h9
  obtain ⟨l, hl, rfl, hw⟩ := fits_ints h0
  obtain ⟨m, e1, e2, e3⟩ := nats64 (l ++ [a1, a2, a3, a4, a5, a6]) (by
    intro x hx
    simp only [List.mem_append, List.mem_cons, List.not_mem_nil, or_false] at hx
    rcases hx with hx | rfl | rfl | rfl | rfl | rfl | rfl
    · exact hw x hx
    all_goals assumption)
  obtain ⟨ns, rfl, hs⟩ := wf_u8 ws
  obtain ⟨np, rfl, hp⟩ := wf_u32 wp
  obtain ⟨nm, rfl, hm⟩ := wf_u32 wm
  refine ⟨⟨m, op, ns, np, nm⟩, ?_, ⟨by simp [e2, hl], e3, hs, hp, hm⟩⟩
  show _ = m.map enc64 ++ _
  rw [← e1]
  simp
theorem wf_u64_mk {n : Nat} (h : n < 2 ^ 64) : (Lit.int .u64 (n : Int)).wf = true := by simp [Lit.wf, IntKind.min, IntKind.max, IntKind.signed, IntKind.bits]; omega
theorem wf_u32_mk {n : Nat} (h : n < 2 ^ 32) : (Lit.int .u32 (n : Int)).wf = true := by simp [Lit.wf, IntKind.min, IntKind.max, IntKind.signed, IntKind.bits]; omega
theorem wf_u8_mk {n : Nat} (h : n < 256) : (Lit.int .u8 (n : Int)).wf = true := by simp [Lit.wf, IntKind.min, IntKind.max, IntKind.signed, IntKind.bits]; omega
theorem fits_nats {w : World} (n : Nat) (l : List Nat) (hn : l.length = n) (h : ∀ x ∈ l, x < 2 ^ 64) : Fits w (.rep n (.int .u64)) (l.map enc64) := by
  subst hn
  have := fits_mk_ints (w := w) (k := .u64) (l.map fun x : Nat => (x : Int)) (by
    intro x hx
    obtain ⟨y, hy, rfl⟩ := List.mem_map.1 hx
    exact wf_u64_mk (h y hy))
  have e : enc64 = fun x : Nat => Value.int .u64 (x : Int) := rfl
  rw [e]
  simpa [List.map_map, Function.comp_def] using this
theorem Se.Ok.fits {x : Se} (h : x.Ok) (w : World) : Fits w seSh x.cells := by
  obtain ⟨r, op, st, pe, ma⟩ := x
  obtain ⟨hl, hw, hs, hp, hm⟩ := h
  simp only at hl hw hs hp hm
  have e : r = r.take 16 ++ r.drop 16 := (List.take_append_drop 16 r).symm
  have hl2 : (r.drop 16).length = 6 := by simp [hl]
  match hd : r.drop 16, hl2 with
  | [a1, a2, a3, a4, a5, a6], _ =>
    have hw2 : ∀ y ∈ [a1, a2, a3, a4, a5, a6], y < 2 ^ 64 := fun y hy => hw y (by rw [e, hd]; exact List.mem_append_right _ hy)
    have ec : (Se.mk r op st pe ma).cells = (r.take 16).map enc64 ++ ([enc64 a1] ++ ([enc64 a2] ++ ([enc64 a3] ++ ([enc64 a4] ++ ([enc64 a5] ++ ([enc64 a6] ++ ([.bool op] ++ ([.int .u8 (st : Int)] ++ ([.int .u32 (pe : Int)] ++ ([.int .u32 (ma : Int)] ++ [])))))))))) := by
      show r.map enc64 ++ _ = _
      conv => lhs; rw [e, hd]
      simp
    rw [ec]
    exact ⟨_, _, rfl, fits_nats 16 _ (by simp [hl]) (fun y hy => hw y (List.mem_of_mem_take hy)), _, _, rfl, ⟨_, rfl, wf_u64_mk (hw2 _ (by simp))⟩, _, _, rfl, ⟨_, rfl, wf_u64_mk (hw2 _ (by simp))⟩, _, _, rfl, ⟨_, rfl, wf_u64_mk (hw2 _ (by simp))⟩,
      _, _, rfl, ⟨_, rfl, wf_u64_mk (hw2 _ (by simp))⟩, _, _, rfl, ⟨_, rfl, wf_u64_mk (hw2 _ (by simp))⟩, _, _, rfl, ⟨_, rfl, wf_u64_mk (hw2 _ (by simp))⟩, _, _, rfl, ⟨_, rfl⟩, _, _, rfl, ⟨_, rfl, wf_u8_mk hs⟩, _, _, rfl, ⟨_, rfl, wf_u32_mk hp⟩, _, _, rfl, ⟨_, rfl, wf_u32_mk hm⟩, rfl⟩
/-- The table in its variable, in a later world. -/
theorem tab_heap {g : Nat} {tab : List Nat} {w w' : World} (h : TabAt g tab w) (hb : g < w.heap.size → w'.heap[g]? = w.heap[g]?) : TabAt g tab w' := fun j hj => by
  have h1 := h j hj
  have hl := World.block_lt_of_cell? w _ h1
  rw [← h1]
  simp only [World.cell?, hb hl]
theorem tab_keep {S : Nat → Prop} {g : Nat} {tab : List Nat} {w w' : World} (h : TabAt g tab w) (k : Keep S w w') (hs : ¬ S g) : TabAt g tab w' := tab_heap h fun hl => k.block g hl hs
theorem tab_below {g : Nat} {tab : List Nat} {w w' : World} (h : TabAt g tab w) (k : Below w.heap.size w w') : TabAt g tab w' := tab_heap h fun hl => k.block g hl
theorem tab_drewN {g : Nat} {tab : List Nat} {w : World} (h : TabAt g tab w) (n : Nat) : TabAt g tab (w.drewN n) := h
theorem tab_lt {g : Nat} {w : World} (h : TabAt g Lib.deBruijn64tab w) : g < w.heap.size := World.block_lt_of_cell? w _ (h 0 (by decide))
set_option maxHeartbeats 1000000 in
theorem tz_core (x k idx : Nat) (w : World) (hx0 : ((x : Int) == 0) = false)
    (key : IntKind.u64.wrap (bits BinOp.and IntKind.u64 (x : Int) (IntKind.u64.wrap (-(x : Int))) * 285870213051353865) / 288230376151711744 = (idx : Int))
    (hi : idx < 64) (hk : k < 64) (hcell : w.cell? ⟨0, idx, none⟩ = some (.int .u8 k)) :
    Calls Tryd.prog 52 #[.int .u64 x] w fun e w' => e = .returned (.int .i64 k) ∧ w = w' := by
  go_enter Tryd.func52, Tryd.ntmps52
  go_wp2_with (simp only [key])
  go_ret
  exact ⟨rfl, rfl⟩
set_option maxHeartbeats 1000000 in
theorem tz_zero (w : World) : Calls Tryd.prog 52 #[.int .u64 0] w fun e w' => e = .returned (.int .i64 64) ∧ w = w' := by
  go_enter Tryd.func52, Tryd.ntmps52
  go_wp2
  go_ret
  exact ⟨rfl, rfl⟩
theorem tz_calls (x : Nat) (hx : x < 18446744073709551616) (w : World) (hT : TabAt 0 Lib.deBruijn64tab w) :
    Calls Tryd.prog 52 #[.int .u64 x] w fun e w' => e = .returned (.int .i64 (Lib.ctz 64 x)) ∧ w = w' := by
  by_cases hx0 : x = 0
  · subst hx0
    exact tz_zero w
  · obtain ⟨hlow, hk⟩ := Lib.lowest_bit 64 x hx0 hx
    obtain ⟨hi, htab⟩ := Lib.deBruijn64_at _ hk
    have hcell := hT _ hi
    rw [htab] at hcell
    exact tz_core x _ _ w (by simp; omega) (tz64_key x _ hx hx0 hlow) hi hk hcell
set_option maxHeartbeats 1000000 in
theorem first_calls (x : Nat) (hx : x < 18446744073709551616) (w : World) (hT : TabAt 0 Lib.deBruijn64tab w) :
    Calls Tryd.prog 48 #[.int .u64 x] w fun e w' => e = .returned (.int .i64 (Lib.ctz 64 x)) ∧ w = w' := by
  have HC := Lib.hid (tz_calls x hx)
  generalize Lib.ctz 64 x = r at *
  go_enter Tryd.func48, Tryd.ntmps48
  go_wp2_with (go_at_call 52; refine (HC.out _ hT).mono ?_; rintro e w' ⟨rfl, rfl⟩)
  go_ret
  exact ⟨rfl, rfl⟩
/-- The place of the lowest one. -/
theorem ctz_form {x : Nat} (h0 : x ≠ 0) (h : x < 2 ^ 64) : ∃ m, x = (2 * m + 1) * 2 ^ Lib.ctz 64 x := by
  obtain ⟨m, hm, _⟩ := Lib.ctzFrom_spec 64 x (by omega) h
  refine ⟨m, ?_⟩
  rw [Nat.mul_comm]
  unfold Lib.ctz
  rw [if_neg h0]
  exact hm
theorem ctz_bit {x : Nat} (h0 : x ≠ 0) (h : x < 2 ^ 64) : x.testBit (Lib.ctz 64 x) = true := by
  obtain ⟨m, hm⟩ := ctz_form h0 h
  generalize Lib.ctz 64 x = c at *
  subst hm
  rw [testBit_mul_pow]
  simp [Nat.testBit_zero]
theorem ctz_low {x : Nat} (h0 : x ≠ 0) (h : x < 2 ^ 64) {j : Nat} (hj : j < Lib.ctz 64 x) : x.testBit j = false := by
  obtain ⟨m, hm⟩ := ctz_form h0 h
  generalize Lib.ctz 64 x = c at *
  subst hm
  rw [testBit_mul_pow]
  simp; omega
theorem ctz_lt {x b : Nat} (h0 : x ≠ 0) (h : x < 2 ^ 64) (hb : x < 2 ^ b) : Lib.ctz 64 x < b := by
  rcases Nat.lt_or_ge (Lib.ctz 64 x) b with h1 | h1
  · exact h1
  · have h2 := ctz_bit h0 h
    rw [testBit_ge hb h1] at h2
    cases h2
theorem ctz_unique {x c : Nat} (h : x < 2 ^ 64) (h1 : x.testBit c = true) (h2 : ∀ j, j < c → x.testBit j = false) : Lib.ctz 64 x = c := by
  have h0 : x ≠ 0 := by intro e; rw [e] at h1; simp at h1
  rcases Nat.lt_trichotomy (Lib.ctz 64 x) c with hl | hl | hl
  · have := ctz_bit h0 h; rw [h2 _ hl] at this; cases this
  · exact hl
  · have := ctz_low h0 h hl; rw [h1] at this; cases this
def nextB (x : Se) : Bool := x.op && decide (x.pe &&& x.ma ≠ 0)
def nextN (x : Se) : Int := if nextB x = true then (Lib.ctz 64 (x.pe &&& x.ma) : Int) else 0
theorem and32 {x : Se} (h : x.Ok) : x.pe &&& x.ma < 2 ^ 32 := Nat.and_lt_two_pow _ h.m
set_option maxHeartbeats 1000000 in
theorem next_nil (w : World) : Calls Tryd.prog 29 #[.pointer none] w fun e w' => e = .returned (.tuple #[.int .i64 0, .bool false]) ∧ ∃ n, w' = w.drewN n := by
  go_enter Tryd.func29, Tryd.ntmps29
  go_wp2
  go_quiet (fail)
  go_wp2
  go_ret2
  exact ⟨rfl, _, rfl⟩
set_option maxHeartbeats 1000000 in
theorem next_calls (x : Se) (h : x.Ok) (b : Nat) (w : World) (hb : Blk w b x.cells 26) (hT : TabAt 0 Lib.deBruijn64tab w) :
    Calls Tryd.prog 29 #[.pointer (some ⟨b, 0, none⟩)] w fun e w' => e = .returned (.tuple #[.int .i64 (nextN x), .bool (nextB x)]) ∧ ∃ n, w' = w.drewN n := by
  have c22 := hb.cellAt h.g22
  have c24 := hb.cellAt h.g24
  have c25 := hb.cellAt h.g25
  have HB := Lib.hid (show nextB x = (x.op && decide (x.pe &&& x.ma ≠ 0)) from rfl)
  have HN := Lib.hid (show nextN x = if nextB x = true then (Lib.ctz 64 (x.pe &&& x.ma) : Int) else 0 from rfl)
  generalize nextN x = rn at *
  generalize nextB x = rb at *
  have HA := Lib.hid (bits_and (k := .u32) rfl h.p h.m)
  have HF := Lib.hid (first_calls (x.pe &&& x.ma) (Nat.lt_trans (and32 h) (by omega)))
  have HT := Lib.hid hT
  clear hT
  by_cases h1 : x.op = true
  · rw [h1] at c22
    by_cases h2 : x.pe &&& x.ma = 0
    · have e : rb = false := by rw [HB.out]; simp [h2]
      have e2 : rn = 0 := by rw [HN.out, e]; rfl
      have hq : Go.bits .and .u32 (x.pe : Int) (x.ma : Int) = 0 := by rw [HA.out, h2]; rfl
      rw [e, e2]
      clear e e2 HN HB
      generalize (x.pe : Int) = pe at *
      generalize (x.ma : Int) = ma at *
      go_enter Tryd.func29, Tryd.ntmps29
      go_wp2
      go_quiet (fail)
      go_wp2
      go_ret2
      exact ⟨rfl, _, rfl⟩
    · have e : rb = true := by rw [HB.out]; simp [h2, h1]
      have e2 : rn = (Lib.ctz 64 (x.pe &&& x.ma) : Int) := by rw [HN.out, e]; rfl
      rw [e, e2]
      generalize Lib.ctz 64 (x.pe &&& x.ma) = r at *
      have hq := HA.out
      have hq0 : (((x.pe &&& x.ma : Nat) : Int) == 0) = false := by simpa using h2
      have hq1 : 0 ≤ ((x.pe &&& x.ma : Nat) : Int) := by omega
      have hq2 : ((x.pe &&& x.ma : Nat) : Int) < 4294967296 := by have := and32 h; omega
      clear e e2 HN HB HA
      generalize ((x.pe &&& x.ma : Nat) : Int) = q at *
      generalize (x.pe : Int) = pe at *
      generalize (x.ma : Int) = ma at *
      go_enter Tryd.func29, Tryd.ntmps29
      go_wp2
      go_quiet (fail)
      go_wp2
      go_quiet ((go_at_call 48; exact quiet_add_left (HF.out _ HT.out)))
      go_wp2
      go_ret2
      exact ⟨rfl, _, World.drewN_drewN _ _ _⟩
  · have h1' : x.op = false := by simpa using h1
    have e : rb = false := by rw [HB.out]; simp [h1']
    have e2 : rn = 0 := by rw [HN.out, e]; rfl
    rw [e, e2]
    rw [h1'] at c22
    clear e e2 HN HB h1 h1'
    generalize (x.pe : Int) = pe at *
    generalize (x.ma : Int) = ma at *
    go_enter Tryd.func29, Tryd.ntmps29
    go_wp2
    go_quiet (fail)
    go_wp2
    go_ret2
    exact ⟨rfl, _, rfl⟩
/-- A seat that waits is ready, if a line that may come was raised. -/
def wakeS (x : Se) : Se := if x.st = 1 ∧ x.pe &&& x.ma ≠ 0 then { x with st := 0 } else x
theorem wake_ok {x : Se} (h : x.Ok) : (wakeS x).Ok := by
  unfold wakeS; split
  · exact ⟨h.l, h.w, by simp, h.p, h.m⟩
  · exact h
set_option maxHeartbeats 1000000 in
theorem wake_calls (x : Se) (h : x.Ok) (b : Nat) (w : World) (hb : Blk w b x.cells 26) :
    Calls Tryd.prog 41 #[.pointer (some ⟨b, 0, none⟩)] w fun e w' => e = .returned (.tuple #[]) ∧ Upd b (wakeS x).cells 26 w w' := by
  have U := Lib.hid (Upd.same hb)
  have c23 := hb.cellAt h.g23
  have c24 := hb.cellAt h.g24
  have c25 := hb.cellAt h.g25
  have f23 := hb.unfrozen 23
  have HW := Lib.hid (show wakeS x = if x.st = 1 ∧ x.pe &&& x.ma ≠ 0 then { x with st := 0 } else x from rfl)
  have H23 := Lib.hid (h.s23 0)
  generalize wakeS x = res at *
  have HA := Lib.hid (bits_and (k := .u32) rfl h.p h.m)
  by_cases h1 : x.st = 1
  · rw [h1] at c23
    by_cases h2 : x.pe &&& x.ma = 0
    · have e : res = x := by rw [HW.out]; simp [h2]
      have hq : Go.bits .and .u32 (x.pe : Int) (x.ma : Int) = 0 := by rw [HA.out, h2]; rfl
      subst e
      clear HW
      generalize (res.pe : Int) = pe at *
      generalize (res.ma : Int) = ma at *
      go_enter Tryd.func41, Tryd.ntmps41
      go_wp2
      go_quiet (fail)
      go_wp2
      go_end0
      exact ⟨rfl, U.out.drewN _⟩
    · have e : res = { x with st := 0 } := by rw [HW.out]; simp [h1, h2]
      have hq : (Go.bits .and .u32 (x.pe : Int) (x.ma : Int) == 0) = false := by rw [HA.out]; simpa using h2
      have E := Lib.hid e
      clear e HW
      generalize (x.pe : Int) = pe at *
      generalize (x.ma : Int) = ma at *
      go_enter Tryd.func41, Tryd.ntmps41
      go_wp2
      go_quiet (fail)
      go_wp2
      go_end0
      exact ⟨rfl, by rw [E.out, ← H23.out]; exact (U.out.drewN _).set 23 _⟩
  · have e : res = x := by rw [HW.out]; simp [h1]
    have h1' : ((x.st : Int) == 1) = false := by simp; omega
    subst e
    clear HW HA
    generalize (res.st : Int) = st at *
    generalize (res.pe : Int) = pe at *
    generalize (res.ma : Int) = ma at *
    go_enter Tryd.func41, Tryd.ntmps41
    go_wp2
    go_quiet (fail)
    go_wp2
    go_end0
    exact ⟨rfl, U.out.drewN _⟩
set_option maxHeartbeats 1000000 in
theorem wake_nil (w : World) : Calls Tryd.prog 41 #[.pointer none] w fun e w' => e = .returned (.tuple #[]) ∧ ∃ n, w' = w.drewN n := by
  go_enter Tryd.func41, Tryd.ntmps41
  go_wp2
  go_quiet (fail)
  go_wp2
  go_end0
  exact ⟨rfl, _, rfl⟩
def takeS (x : Se) : Se := if nextB x = true then { x with pe := andn x.pe (2 ^ Lib.ctz 64 (x.pe &&& x.ma)) } else x
theorem next_some {x : Se} (h : x.Ok) (hn : nextB x = true) : x.op = true ∧ x.pe &&& x.ma ≠ 0 ∧ Lib.ctz 64 (x.pe &&& x.ma) < 32 := by
  unfold nextB at hn
  simp only [Bool.and_eq_true, decide_eq_true_eq] at hn
  have := and32 h
  exact ⟨hn.1, hn.2, ctz_lt hn.2 (by omega) this⟩
theorem take_ok {x : Se} (h : x.Ok) : (takeS x).Ok := by
  unfold takeS; split
  · rename_i hn
    exact ⟨h.l, h.w, h.s, andn_lt h.p (Nat.pow_lt_pow_right (by omega) (next_some h hn).2.2), h.m⟩
  · exact h
set_option maxRecDepth 8000 in
set_option maxHeartbeats 1000000 in
theorem take_calls (x : Se) (h : x.Ok) (b : Nat) (w : World) (hb : Blk w b x.cells 26) (hT : TabAt 0 Lib.deBruijn64tab w) :
    Calls Tryd.prog 20 #[.pointer (some ⟨b, 0, none⟩)] w fun e w' => e = .returned (.tuple #[.int .i64 (nextN x), .bool (nextB x)]) ∧ Upd b (takeS x).cells 26 w w' := by
  have U := Lib.hid (Upd.same hb)
  have c24 := hb.cellAt h.g24
  have f24 := hb.unfrozen 24
  have HC := Lib.hid ((next_calls x h b w hb hT).mono (R' := fun e w' => e = .returned (.tuple #[.int .i64 (nextN x), .bool (nextB x)]) ∧ Upd b x.cells 26 w w') fun _ _ ⟨he, m, hm⟩ => ⟨he, by rw [hm]; exact (Upd.same hb).drewN m⟩)
  have H24 := Lib.hid h.g24
  have HT := Lib.hid hT
  clear hT
  have HS := Lib.hid (show takeS x = if nextB x = true then { x with pe := andn x.pe (2 ^ Lib.ctz 64 (x.pe &&& x.ma)) } else x from rfl)
  have HN := Lib.hid (show nextN x = if nextB x = true then (Lib.ctz 64 (x.pe &&& x.ma) : Int) else 0 from rfl)
  have HX := Lib.hid (next_some h)
  generalize takeS x = res at *
  generalize nextN x = rn at *
  cases hB : nextB x with
  | false =>
    rw [hB] at HC HS HN
    have E := Lib.hid (show res = x by rw [HS.out]; simp)
    clear HS HN HX hB
    go_enter Tryd.func20, Tryd.ntmps20
    go_wp2_with (go_at_call 29; refine HC.out.mono ?_; rintro e w2 ⟨rfl, u2⟩)
    go_ret2
    exact ⟨rfl, by rw [E.out]; assumption⟩
  | true =>
    rw [hB] at HC HS HN
    have hc := (HX.out hB).2.2
    have E := Lib.hid (show res = { x with pe := andn x.pe (2 ^ Lib.ctz 64 (x.pe &&& x.ma)) } by rw [HS.out]; simp)
    have e2 : rn = (Lib.ctz 64 (x.pe &&& x.ma) : Int) := by rw [HN.out]; simp
    subst e2
    clear HS HN HX hB
    generalize Lib.ctz 64 (x.pe &&& x.ma) = k at *
    have hk : (2 : Nat) ^ k < 2 ^ 32 := Nat.pow_lt_pow_right (by omega) hc
    have hw1 : IntKind.u32.wrap ((2 : Int) ^ k) = ((2 ^ k : Nat) : Int) := by
      rw [show (2 : Int) ^ k = ((2 ^ k : Nat) : Int) by simp]
      exact wrap_lt (k := .u32) rfl hk
    have hor := bits_andNot (k := .u32) rfl h.p hk
    have U1 : Hid (∀ w2, Upd b x.cells 26 w w2 → Upd b { x with pe := andn x.pe (2 ^ k) }.cells 26 w ((w2.drewN 1).setCell ⟨b, 24, none⟩ (.int .u32 ((andn x.pe (2 ^ k) : Nat) : Int)))) := by
      intro w2 u
      rw [← h.s24]
      exact (u.drewN 1).set 24 _
    have h0 : 0 ≤ (k : Int) := by omega
    clear hk
    generalize ((2 ^ k : Nat) : Int) = p2 at *
    generalize ((andn x.pe (2 ^ k) : Nat) : Int) = q at *
    generalize (x.pe : Int) = pe at *
    clear c24 f24
    go_enter Tryd.func20, Tryd.ntmps20
    go_wp2_with (go_at_call 29; refine HC.out.mono ?_; rintro e w2 ⟨rfl, u2⟩; have c24 := u2.c.cellAt H24.out; have f24 := u2.c.unfrozen 24; have U2 := Lib.hid u2; clear u2)
    go_still_tail 9, (by kernel_rfl)
    change wpList _ _ _ _ _ (World.drewN _ 1)
    have U3 := Lib.hid (U1.out _ U2.out)
    go_upto_region 4 with (fail)
    go_wp2
    go_ret2
    exact ⟨rfl, by rw [E.out]; exact U3.out⟩
def flagN (b : Bool) : Nat := if b = true then 1 else 0
set_option maxHeartbeats 1000000 in
theorem flag_calls (b : Bool) (w : World) : Calls Tryd.prog 51 #[.bool b] w fun e w' => e = .returned (.int .u64 ((flagN b : Nat) : Int)) ∧ w = w' := by
  cases b
  all_goals
    go_enter Tryd.func51, Tryd.ntmps51
    go_wp2
    go_ret
    exact ⟨rfl, rfl⟩
/-- A seat as words. -/
theorem flag_still (b : Bool) (w : World) : Calls Tryd.prog 51 #[.bool b] w fun e w' => e = .returned (.int .u64 ((flagN b : Nat) : Int)) ∧ w' = w := (flag_calls b w).mono fun _ _ ⟨h1, h2⟩ => ⟨h1, h2.symm⟩
def nearS (x : Se) : Se := { x with st := x.st % 3, pe := x.pe % 256, ma := x.ma % 256 }
theorem near_ok {x : Se} (h : x.Ok) : (nearS x).Ok := ⟨h.l, h.w, by have := h.s; show x.st % 3 < 256; omega, by show x.pe % 256 < 2 ^ 32; omega, by show x.ma % 256 < 2 ^ 32; omega⟩
def zeroSe : Se := ⟨List.replicate 22 0, false, 0, 0, 0⟩
theorem zero_ok : zeroSe.Ok := ⟨by decide, by decide, by decide, by decide, by decide⟩
theorem size26 : (Tryd.prog.info? 26).map (·.size) = some 26 := by kernel_rfl
theorem info_se {x : Se} (h : x.Ok) : (Tryd.prog.info? 26).map (·.size) = some x.cells.length := by rw [h.len]; exact size26
theorem zero_cells : zeroSe.cells = [.int .u64 0, .int .u64 0, .int .u64 0, .int .u64 0, .int .u64 0, .int .u64 0, .int .u64 0, .int .u64 0, .int .u64 0, .int .u64 0, .int .u64 0, .int .u64 0, .int .u64 0, .int .u64 0, .int .u64 0, .int .u64 0, .int .u64 0, .int .u64 0, .int .u64 0, .int .u64 0, .int .u64 0, .int .u64 0, .bool false, .int .u8 0, .int .u32 0, .int .u32 0] := by kernel_rfl
set_option maxHeartbeats 1000000 in
theorem near_calls (x : Se) (h : x.Ok) (w : World) :
    Calls Tryd.prog 11 #[.agg x.cells.toArray] w fun e w' => e = .returned (.agg (nearS x).cells.toArray) ∧ Below w.heap.size w w' := by
  have HI := Lib.hid (info_se (near_ok h))
  have HL := Lib.hid (near_ok h).len
  have HO := Lib.hid (Se.one (nearS x))
  have GN : Hid (∀ b w3, Blk w3 b x.cells 26 → Upd b (nearS x).cells 26 w3 (((w3.setCell ⟨b, 23, none⟩ (.int .u8 ((x.st : Int) % 3))).setCell ⟨b, 24, none⟩ (.int .u32 ((x.pe : Int) % 256))).setCell ⟨b, 25, none⟩ (.int .u32 ((x.ma : Int) % 256)))) := by
    intro b w3 hb
    have k1 : ({ x with st := x.st % 3 } : Se).Ok := ⟨h.l, h.w, by have := h.s; show x.st % 3 < 256; omega, h.p, h.m⟩
    have k2 : ({ x with st := x.st % 3, pe := x.pe % 256 } : Se).Ok := ⟨h.l, h.w, k1.s, by show x.pe % 256 < 2 ^ 32; omega, h.m⟩
    have e1 := h.s23 (x.st % 3)
    have e2 := k1.s24 (x.pe % 256)
    have e3 := k2.s25 (x.ma % 256)
    have u := (((Upd.same hb).set 23 (.int .u8 ((x.st % 3 : Nat) : Int))).set 24 (.int .u32 ((x.pe % 256 : Nat) : Int))).set 25 (.int .u32 ((x.ma % 256 : Nat) : Int))
    rw [e1, e2, e3] at u
    exact u
  have G23 := Lib.hid h.g23
  have G24 := Lib.hid h.g24
  have G25 := Lib.hid h.g25
  have h0 : 0 ≤ (x.st : Int) := by omega
  have h1 : 0 ≤ (x.pe : Int) := by omega
  have h2 : 0 ≤ (x.ma : Int) := by omega
  have HC := Lib.hid h.len
  generalize (nearS x).cells = NC at *
  generalize (x.st : Int) = st at *
  generalize (x.pe : Int) = pe at *
  generalize (x.ma : Int) = ma at *
  generalize x.cells = XC at *
  go_enter Tryd.func11, Tryd.ntmps11
  go_upto_region 1 with (fail)
  have h3b := blocks2 w XC.toArray #[.int .u64 0, .int .u64 0, .int .u64 0, .int .u64 0, .int .u64 0, .int .u64 0, .int .u64 0, .int .u64 0, .int .u64 0, .int .u64 0, .int .u64 0, .int .u64 0, .int .u64 0, .int .u64 0, .int .u64 0, .int .u64 0, .int .u64 0, .int .u64 0, .int .u64 0, .int .u64 0, .int .u64 0, .int .u64 0, .bool false, .int .u8 0, .int .u32 0, .int .u32 0] 26 26
  generalize (w.alloc (.cells _ 26)).alloc _ = w3 at *
  obtain ⟨hB, hsz, b1, b2⟩ := h3b w3 rfl
  clear h3b
  have b1' : Blk w3 w.heap.size XC 26 := by simpa using b1
  have c23 := b1'.cellAt G23.out
  have c24 := b1'.cellAt G24.out
  have c25 := b1'.cellAt G25.out
  have f23 := b1'.unfrozen 23
  have f24 := b1'.unfrozen 24
  have f25 := b1'.unfrozen 25
  have U1 := Lib.hid (GN.out _ _ b1')
  have hl2 := b2.lt
  have B2 := Lib.hid b2
  have XB := Lib.hid hB
  clear b1 b1' b2 hB hsz
  go_upto_region 4 with (fail)
  generalize ((w3.setCell _ (.int .u8 (st % 3))).setCell _ (.int .u32 (pe % 256))).setCell _ (.int .u32 (ma % 256)) = w4 at *
  have B4 := Lib.hid (U1.out.blk B2.out (by omega))
  go_wp2_with (first | refine wpList_load_mid rfl 26 (.tmp 1) rfl w.heap.size 0 rfl NC _ (range_all U1.out.c) Tryd.underlying26 rfl HI.out ?_ | refine wpList_store_mid rfl 26 (.tmp 2) (.tmp 15) rfl (w.heap.size + 1) 0 NC.toArray rfl rfl (there_of_blk B4.out ?s1) ?s2 ?s3 ?_)
  case s1 => have := HL.out; simp; omega
  case s2 => simpa using HI.out
  case s3 => first | exact HO.out | exact all_oneCell_toArray HO.out
  have hbz := blk_setAll B4.out (vs := NC) (by have := HL.out; simp; omega)
  refine bodyPost_ret (v := .agg NC.toArray) (results_cell_row Tryd.results11 _ _ (w.heap.size + 1) _ NC.toArray _ _ rfl hbz Tryd.underlying26 rfl (by simpa using HI.out)) rfl ⟨rfl, ?_⟩
  exact below_setCells (U1.out.below XB.out (Nat.le_refl _)) (by omega) 0 _
theorem zero_val (w : World) : (zeroValue 26).run Tryd.prog w = .ok (.agg zeroSe.cells.toArray) w := by kernel_rfl
def trapS (x : Se) (c a : Nat) : Se := if x.r.getD 18 0 = 0 then { x with st := 2 } else { x with r := (((x.r.set 19 (x.r.getD 16 0)).set 20 c).set 21 a).set 16 (x.r.getD 18 0), op := false }
theorem trap_ok {x : Se} (h : x.Ok) {c a : Nat} (hc : c < 2 ^ 64) (ha : a < 2 ^ 64) : (trapS x c a).Ok := by
  unfold trapS
  have hg : ∀ i, x.r.getD i 0 < 2 ^ 64 := by
    intro i
    rw [List.getD_eq_getElem?_getD]
    cases hi : x.r[i]? with
    | none => simp
    | some y => exact h.w y (List.mem_of_getElem? hi)
  have hset : ∀ (l : List Nat) i v, (∀ y ∈ l, y < 2 ^ 64) → v < 2 ^ 64 → ∀ y ∈ l.set i v, y < 2 ^ 64 := by
    intro l i v hl hv y hy
    rcases List.mem_or_eq_of_mem_set hy with h | h
    · exact hl y h
    · rw [h]; exact hv
  split
  · exact ⟨h.l, h.w, by show 2 < 256; omega, h.p, h.m⟩
  · exact ⟨by simp [h.l], hset _ _ _ (hset _ _ _ (hset _ _ _ (hset _ _ _ h.w (hg 16)) hc) ha) (hg 18), h.s, h.p, h.m⟩
set_option maxHeartbeats 1000000 in
theorem trap_nil (c a : Int) (w : World) : Calls Tryd.prog 30 #[.pointer none, .int .u64 c, .int .u64 a] w fun e w' => e = .returned (.tuple #[]) ∧ w = w' := by
  go_enter Tryd.func30, Tryd.ntmps30
  go_wp2
  first | go_end0 | refine bodyPost_ret (results_none rfl _ _ _) rfl ?_
  exact ⟨rfl, rfl⟩
set_option maxHeartbeats 2000000 in
theorem trap_calls (x : Se) (h : x.Ok) (c a : Nat) (hc : c < 2 ^ 64) (ha : a < 2 ^ 64) (b : Nat) (w : World) (hb : Blk w b x.cells 26) :
    Calls Tryd.prog 30 #[.pointer (some ⟨b, 0, none⟩), .int .u64 (c : Int), .int .u64 (a : Int)] w fun e w' => e = .returned (.tuple #[]) ∧ Upd b (trapS x c a).cells 26 w w' := by
  have U := Lib.hid (Upd.same hb)
  have c16 := hb.cellAt (h.gr (i := 16) (by omega))
  have c18 := hb.cellAt (h.gr (i := 18) (by omega))
  have c19 := hb.cellAt (h.gr (i := 19) (by omega))
  have c20 := hb.cellAt (h.gr (i := 20) (by omega))
  have c21 := hb.cellAt (h.gr (i := 21) (by omega))
  have c22 := hb.cellAt h.g22
  have c23 := hb.cellAt h.g23
  have f16 := hb.unfrozen 16
  have f19 := hb.unfrozen 19
  have f20 := hb.unfrozen 20
  have f21 := hb.unfrozen 21
  have f22 := hb.unfrozen 22
  have f23 := hb.unfrozen 23
  have HT := Lib.hid (show trapS x c a = if x.r.getD 18 0 = 0 then { x with st := 2 } else { x with r := (((x.r.set 19 (x.r.getD 16 0)).set 20 c).set 21 a).set 16 (x.r.getD 18 0), op := false } from rfl)
  generalize trapS x c a = res at *
  by_cases hv : x.r.getD 18 0 = 0
  · have hz : (((x.r.getD 18 0 : Nat) : Int) == 0) = true := by simpa using hv
    have U1 := Lib.hid (U.out.set 23 (.int .u8 ((2 : Nat) : Int)))
    rw [h.s23 2] at U1
    have E := Lib.hid (show res = { x with st := 2 } by rw [HT.out, if_pos hv])
    clear HT hv
    generalize ((x.r.getD 18 0 : Nat) : Int) = v18 at *
    generalize ((x.r.getD 16 0 : Nat) : Int) = v16 at *
    go_enter Tryd.func30, Tryd.ntmps30
    go_wp2
    first | go_end0 | refine bodyPost_ret (results_none rfl _ _ _) rfl ?_
    exact ⟨rfl, by rw [E.out]; exact U1.out⟩
  · have hz : (((x.r.getD 18 0 : Nat) : Int) == 0) = false := by simpa using hv
    have E := Lib.hid (show res = { x with r := (((x.r.set 19 (x.r.getD 16 0)).set 20 c).set 21 a).set 16 (x.r.getD 18 0), op := false } by rw [HT.out, if_neg hv])
    clear HT hv
    have U1 : Hid (∀ w1, Upd b x.cells 26 w w1 → Upd b res.cells 26 w (((((w1.setCell ⟨b, 19, none⟩ (.int .u64 ((x.r.getD 16 0 : Nat) : Int))).setCell ⟨b, 20, none⟩ (.int .u64 (c : Int))).setCell ⟨b, 21, none⟩ (.int .u64 (a : Int))).setCell ⟨b, 16, none⟩ (.int .u64 ((x.r.getD 18 0 : Nat) : Int))).setCell ⟨b, 22, none⟩ (.bool false))) := by
      intro w1 u
      have kr : ∀ (r : List Nat), r.length = 22 → (∀ y ∈ r, y < 2 ^ 64) → ({ x with r := r } : Se).Ok := fun r h1 h2 => ⟨h1, h2, h.s, h.p, h.m⟩
      have e1 := h.sr (i := 19) (by omega) (x.r.getD 16 0)
      have hg : ∀ i, x.r.getD i 0 < 2 ^ 64 := by
        intro i
        rw [List.getD_eq_getElem?_getD]
        cases hi : x.r[i]? with
        | none => simp
        | some y => exact h.w y (List.mem_of_getElem? hi)
      have hset : ∀ (l : List Nat) i v, (∀ y ∈ l, y < 2 ^ 64) → v < 2 ^ 64 → ∀ y ∈ l.set i v, y < 2 ^ 64 := by
        intro l i v hl hv y hy
        rcases List.mem_or_eq_of_mem_set hy with h | h
        · exact hl y h
        · rw [h]; exact hv
      have k1 := kr (x.r.set 19 (x.r.getD 16 0)) (by simp [h.l]) (hset _ _ _ h.w (hg 16))
      have e2 := k1.sr (i := 20) (by omega) c
      have k2 := kr ((x.r.set 19 (x.r.getD 16 0)).set 20 c) (by simp [h.l]) (hset _ _ _ k1.w hc)
      have e3 := k2.sr (i := 21) (by omega) a
      have k3 := kr (((x.r.set 19 (x.r.getD 16 0)).set 20 c).set 21 a) (by simp [h.l]) (hset _ _ _ k2.w ha)
      have e4 := k3.sr (i := 16) (by omega) (x.r.getD 18 0)
      have k4 := kr ((((x.r.set 19 (x.r.getD 16 0)).set 20 c).set 21 a).set 16 (x.r.getD 18 0)) (by simp [h.l]) (hset _ _ _ k3.w (hg 18))
      have e5 := k4.s22 false
      have u5 := ((((u.set 19 (.int .u64 ((x.r.getD 16 0 : Nat) : Int))).set 20 (.int .u64 (c : Int))).set 21 (.int .u64 (a : Int))).set 16 (.int .u64 ((x.r.getD 18 0 : Nat) : Int))).set 22 (.bool false)
      rw [e1, e2, e3, e4, e5] at u5
      rw [E.out]
      exact u5
    clear E
    generalize ((x.r.getD 18 0 : Nat) : Int) = v18 at *
    generalize ((x.r.getD 16 0 : Nat) : Int) = v16 at *
    generalize ((x.r.getD 19 0 : Nat) : Int) = v19 at *
    generalize ((x.r.getD 20 0 : Nat) : Int) = v20 at *
    generalize ((x.r.getD 21 0 : Nat) : Int) = v21 at *
    go_enter Tryd.func30, Tryd.ntmps30
    go_wp2
    go_region
    go_wp2
    first | go_end0 | refine bodyPost_ret (results_none rfl _ _ _) rfl ?_
    exact ⟨rfl, (U1.out _ U.out).drewN 1⟩
def backS (x : Se) : Se := { x with r := x.r.set 16 (x.r.getD 19 0), op := true }
theorem getD_lt {x : Se} (h : x.Ok) (i : Nat) : x.r.getD i 0 < 2 ^ 64 := by
  rw [List.getD_eq_getElem?_getD]
  cases hi : x.r[i]? with
  | none => simp
  | some y => exact h.w y (List.mem_of_getElem? hi)
theorem set_lt {l : List Nat} {i v : Nat} (hl : ∀ y ∈ l, y < 2 ^ 64) (hv : v < 2 ^ 64) : ∀ y ∈ l.set i v, y < 2 ^ 64 := by
  intro y hy
  rcases List.mem_or_eq_of_mem_set hy with h | h
  · exact hl y h
  · rw [h]; exact hv
theorem back_ok {x : Se} (h : x.Ok) : (backS x).Ok := ⟨by simp [backS, h.l], set_lt h.w (getD_lt h 19), h.s, h.p, h.m⟩
set_option maxHeartbeats 1000000 in
theorem back_nil (w : World) : Calls Tryd.prog 42 #[.pointer none] w fun e w' => e = .returned (.tuple #[]) ∧ w = w' := by
  go_enter Tryd.func42, Tryd.ntmps42
  go_wp2
  first | go_end0 | refine bodyPost_ret (results_none rfl _ _ _) rfl ?_
  exact ⟨rfl, rfl⟩
set_option maxHeartbeats 1000000 in
theorem back_calls (x : Se) (h : x.Ok) (b : Nat) (w : World) (hb : Blk w b x.cells 26) :
    Calls Tryd.prog 42 #[.pointer (some ⟨b, 0, none⟩)] w fun e w' => e = .returned (.tuple #[]) ∧ Upd b (backS x).cells 26 w w' := by
  have c16 := hb.cellAt (h.gr (i := 16) (by omega))
  have c19 := hb.cellAt (h.gr (i := 19) (by omega))
  have c22 := hb.cellAt h.g22
  have f16 := hb.unfrozen 16
  have f22 := hb.unfrozen 22
  have U1 : Hid (∀ w1, Upd b x.cells 26 w w1 → Upd b (backS x).cells 26 w ((w1.setCell ⟨b, 16, none⟩ (.int .u64 ((x.r.getD 19 0 : Nat) : Int))).setCell ⟨b, 22, none⟩ (.bool true))) := by
    intro w1 u
    have k1 : ({ x with r := x.r.set 16 (x.r.getD 19 0) } : Se).Ok := ⟨by simp [h.l], set_lt h.w (getD_lt h 19), h.s, h.p, h.m⟩
    have u5 := (u.set 16 (.int .u64 ((x.r.getD 19 0 : Nat) : Int))).set 22 (.bool true)
    rw [h.sr (by omega), k1.s22 true] at u5
    exact u5
  have U := Lib.hid (Upd.same hb)
  generalize ((x.r.getD 16 0 : Nat) : Int) = v16 at *
  generalize ((x.r.getD 19 0 : Nat) : Int) = v19 at *
  go_enter Tryd.func42, Tryd.ntmps42
  go_wp2
  first | go_end0 | refine bodyPost_ret (results_none rfl _ _ _) rfl ?_
  exact ⟨rfl, U1.out _ U.out⟩
theorem trap_cells {x : Se} (h : x.Ok) {c a : Nat} (hc : c < 2 ^ 64) (ha : a < 2 ^ 64) (hv : x.r.getD 18 0 ≠ 0) :
    ((((x.cells.set 19 (.int .u64 ((x.r.getD 16 0 : Nat) : Int))).set 20 (.int .u64 (c : Int))).set 21 (.int .u64 (a : Int))).set 16 (.int .u64 ((x.r.getD 18 0 : Nat) : Int))).set 22 (.bool false) = (trapS x c a).cells := by
  have kr : ∀ (r : List Nat), r.length = 22 → (∀ y ∈ r, y < 2 ^ 64) → ({ x with r := r } : Se).Ok := fun r h1 h2 => ⟨h1, h2, h.s, h.p, h.m⟩
  have k1 := kr (x.r.set 19 (x.r.getD 16 0)) (by simp [h.l]) (set_lt h.w (getD_lt h 16))
  have k2 := kr ((x.r.set 19 (x.r.getD 16 0)).set 20 c) (by simp [h.l]) (set_lt k1.w hc)
  have k3 := kr (((x.r.set 19 (x.r.getD 16 0)).set 20 c).set 21 a) (by simp [h.l]) (set_lt k2.w ha)
  have k4 := kr ((((x.r.set 19 (x.r.getD 16 0)).set 20 c).set 21 a).set 16 (x.r.getD 18 0)) (by simp [h.l]) (set_lt k3.w (getD_lt h 18))
  rw [h.sr (by omega), k1.sr (by omega), k2.sr (by omega), k3.sr (by omega), k4.s22 false]
  unfold trapS
  rw [if_neg hv]
theorem trap_dead {x : Se} (h : x.Ok) {c a : Nat} (hv : x.r.getD 18 0 = 0) : x.cells.set 23 (.int .u8 2) = (trapS x c a).cells := by
  have := h.s23 2
  unfold trapS
  rw [if_pos hv]
  exact this
set_option maxHeartbeats 2000000 in
theorem refTrap_calls (x : Se) (h : x.Ok) (c a : Nat) (hc : c < 2 ^ 64) (ha : a < 2 ^ 64) (w : World) :
    Calls Tryd.prog 44 #[.agg x.cells.toArray, .int .u64 (c : Int), .int .u64 (a : Int)] w fun e w' => e = .returned (.agg (trapS x c a).cells.toArray) ∧ Below w.heap.size w w' := by
  have okt := Lib.hid (trap_ok h hc ha)
  have IT := Lib.hid (info_se okt.out)
  have LT := Lib.hid okt.out.len
  have OT := Lib.hid (Se.one (trapS x c a))
  have LX := Lib.hid h.len
  have IX := Lib.hid (info_se h)
  have G16 := Lib.hid (h.gr (i := 16) (by omega))
  have G18 := Lib.hid (h.gr (i := 18) (by omega))
  have G19 := Lib.hid (h.gr (i := 19) (by omega))
  have G20 := Lib.hid (h.gr (i := 20) (by omega))
  have G21 := Lib.hid (h.gr (i := 21) (by omega))
  have G22 := Lib.hid h.g22
  have G23 := Lib.hid h.g23
  have TC := Lib.hid (trap_cells (x := x) h hc ha)
  have TD := Lib.hid (trap_dead (x := x) (c := c) (a := a) h)
  have hz := zero_val
  have HZL := Lib.hid zero_ok.len
  generalize (trapS x c a).cells = RC at *
  have hvv : Hid (x.r.getD 18 0 = 0 ∨ x.r.getD 18 0 ≠ 0) := Nat.decEq _ _ |>.em
  generalize hv18 : x.r.getD 18 0 = n18 at *
  generalize ((x.r.getD 16 0 : Nat) : Int) = v16 at *
  generalize ((x.r.getD 19 0 : Nat) : Int) = v19 at *
  generalize ((x.r.getD 20 0 : Nat) : Int) = v20 at *
  generalize ((x.r.getD 21 0 : Nat) : Int) = v21 at *
  generalize x.cells = XC at *
  generalize zeroSe.cells = ZC at *
  have hzs : ZC.toArray.size = 26 := by simpa using HZL.out
  have hzn : ¬ ZC.toArray = #[] := fun h => by rw [h] at hzs; simp at hzs
  have X1 : Hid (Own w w.heap.size XC 26 (w.alloc (.cells XC.toArray 26))) := Own.newL (Below.refl _ _) _ _
  have R1 : Hid (Own w (w.alloc (.cells XC.toArray 26)).heap.size ZC 26 ((w.alloc (.cells XC.toArray 26)).alloc (.cells ZC.toArray 26))) := Own.newL X1.out.bel _ _
  have z1 : (w.alloc (.cells XC.toArray 26)).heap.size = w.heap.size + 1 := by simp
  rw [z1] at R1
  have X2 := Lib.hid (X1.out.alloc (.cells ZC.toArray 26))
  clear z1 X1 hv18 h
  go_enter Tryd.func44, Tryd.ntmps44
  go_upto_region 1 with (fail)
  generalize (w.alloc (.cells XC.toArray 26)).alloc _ = w2 at *
  have NE := Lib.hid (show w.heap.size ≠ w.heap.size + 1 by omega)
  have c16 := X2.out.cell G16.out
  have c18 := X2.out.cell G18.out
  have c19 := X2.out.cell G19.out
  have c20 := X2.out.cell G20.out
  have c21 := X2.out.cell G21.out
  have c22 := X2.out.cell G22.out
  have c23 := X2.out.cell G23.out
  have f16 := X2.out.fro 16
  have f19 := X2.out.fro 19
  have f20 := X2.out.fro 20
  have f21 := X2.out.fro 21
  have f22 := X2.out.fro 22
  have f23 := X2.out.fro 23
  rcases hvv.out with h0 | h0
  · subst h0
    have X3 := Lib.hid (X2.out.set 23 (.int .u8 2))
    have R3 := Lib.hid (R1.out.setO NE.out X2.out.n 23 (.int .u8 2))
    rw [TD.out rfl] at X3
    go_upto_region 3 with (fail)
    generalize World.setCell _ _ _ = w3 at *
    clear c16 c18 c19 c20 c21 c22 c23 f16 f19 f20 f21 f22 f23
    have R4 := Lib.hid (R3.out.setAll RC (by rw [LT.out, HZL.out]))
    go_wp2_with (first | refine wpList_load_mid rfl 26 (.tmp 3) rfl w.heap.size 0 rfl RC _ X3.out.all Tryd.underlying26 rfl IT.out ?_ | refine wpList_store_mid rfl 26 (.tmp 6) (.tmp 11) rfl (w.heap.size + 1) 0 RC.toArray rfl rfl (R3.out.there ?s1) ?s2 ?s3 ?_)
    case s1 => have h1 := LT.out; have h2 := HZL.out; simp; omega
    case s2 => simpa using IT.out
    case s3 => first | exact OT.out | exact all_oneCell_toArray OT.out
    refine bodyPost_ret (v := .agg RC.toArray) (results_cell_row Tryd.results44 _ _ (w.heap.size + 1) _ RC.toArray _ _ rfl R4.out.k Tryd.underlying26 rfl (by simpa using IT.out)) rfl ⟨rfl, R4.out.bel⟩
  · have hd : (((n18 : Nat) : Int) == 0) = false := by simp; omega
    have X3 := Lib.hid (((((X2.out.set 19 (.int .u64 v16)).set 20 (.int .u64 (c : Int))).set 21 (.int .u64 (a : Int))).set 16 (.int .u64 ((n18 : Nat) : Int))).set 22 (.bool false))
    have R3 := Lib.hid (((((R1.out.setO NE.out X2.out.n 19 (.int .u64 v16)).setO NE.out X2.out.n 20 (.int .u64 (c : Int))).setO NE.out X2.out.n 21 (.int .u64 (a : Int))).setO NE.out X2.out.n 16 (.int .u64 ((n18 : Nat) : Int))).setO NE.out X2.out.n 22 (.bool false))
    rw [TC.out h0] at X3
    clear h0
    generalize ((n18 : Nat) : Int) = v18 at *
    go_upto_region 9 with (fail)
    generalize World.setCell _ _ _ = w3 at *
    clear c16 c18 c19 c20 c21 c22 c23 f16 f19 f20 f21 f22 f23
    have R4 := Lib.hid (R3.out.setAll RC (by rw [LT.out, HZL.out]))
    go_wp2_with (first | refine wpList_load_mid rfl 26 (.tmp 3) rfl w.heap.size 0 rfl RC _ X3.out.all Tryd.underlying26 rfl IT.out ?_ | refine wpList_store_mid rfl 26 (.tmp 6) (.tmp 23) rfl (w.heap.size + 1) 0 RC.toArray rfl rfl (R3.out.there ?s1) ?s2 ?s3 ?_)
    case s1 => have h1 := LT.out; have h2 := HZL.out; simp; omega
    case s2 => simpa using IT.out
    case s3 => first | exact OT.out | exact all_oneCell_toArray OT.out
    refine bodyPost_ret (v := .agg RC.toArray) (results_cell_row Tryd.results44 _ _ (w.heap.size + 1) _ RC.toArray _ _ rfl R4.out.k Tryd.underlying26 rfl (by simpa using IT.out)) rfl ⟨rfl, R4.out.bel⟩

set_option maxHeartbeats 1000000 in
theorem get0 (x : Se) (h : x.Ok) (time me : Int) (w : World) : Calls Tryd.prog 39 #[.agg x.cells.toArray, .int .i64 0, .int .u64 time, .int .i64 me] w fun e w' => e = .returned (.tuple #[.int .u64 ((x.r.getD 17 0 : Nat) : Int), .bool true]) ∧ Below w.heap.size w w' := by
  have G := Lib.hid (h.gr (i := 17) (by omega))
  generalize ((x.r.getD 17 0 : Nat) : Int) = g at *
  have X1 : Hid (Own w w.heap.size x.cells 26 (w.alloc (.cells x.cells.toArray 26))) := Own.newL (Below.refl _ _) _ _
  generalize x.cells = XC at *
  go_enter Tryd.func39, Tryd.ntmps39
  go_upto_region 1 with (fail)
  generalize w.alloc (.cells XC.toArray 26) = w1 at *
  have c := X1.out.cell G.out
  go_wp2
  go_ret2
  exact ⟨rfl, X1.out.bel⟩

set_option maxHeartbeats 1000000 in
theorem get1 (x : Se) (h : x.Ok) (time me : Int) (w : World) : Calls Tryd.prog 39 #[.agg x.cells.toArray, .int .i64 1, .int .u64 time, .int .i64 me] w fun e w' => e = .returned (.tuple #[.int .u64 ((x.r.getD 18 0 : Nat) : Int), .bool true]) ∧ Below w.heap.size w w' := by
  have G := Lib.hid (h.gr (i := 18) (by omega))
  generalize ((x.r.getD 18 0 : Nat) : Int) = g at *
  have X1 : Hid (Own w w.heap.size x.cells 26 (w.alloc (.cells x.cells.toArray 26))) := Own.newL (Below.refl _ _) _ _
  generalize x.cells = XC at *
  go_enter Tryd.func39, Tryd.ntmps39
  go_upto_region 1 with (fail)
  generalize w.alloc (.cells XC.toArray 26) = w1 at *
  have c := X1.out.cell G.out
  go_wp2
  go_ret2
  exact ⟨rfl, X1.out.bel⟩

set_option maxHeartbeats 1000000 in
theorem get2 (x : Se) (h : x.Ok) (time me : Int) (w : World) : Calls Tryd.prog 39 #[.agg x.cells.toArray, .int .i64 2, .int .u64 time, .int .i64 me] w fun e w' => e = .returned (.tuple #[.int .u64 ((x.r.getD 19 0 : Nat) : Int), .bool true]) ∧ Below w.heap.size w w' := by
  have G := Lib.hid (h.gr (i := 19) (by omega))
  generalize ((x.r.getD 19 0 : Nat) : Int) = g at *
  have X1 : Hid (Own w w.heap.size x.cells 26 (w.alloc (.cells x.cells.toArray 26))) := Own.newL (Below.refl _ _) _ _
  generalize x.cells = XC at *
  go_enter Tryd.func39, Tryd.ntmps39
  go_upto_region 1 with (fail)
  generalize w.alloc (.cells XC.toArray 26) = w1 at *
  have c := X1.out.cell G.out
  go_wp2
  go_ret2
  exact ⟨rfl, X1.out.bel⟩

set_option maxHeartbeats 1000000 in
theorem get3 (x : Se) (h : x.Ok) (time me : Int) (w : World) : Calls Tryd.prog 39 #[.agg x.cells.toArray, .int .i64 3, .int .u64 time, .int .i64 me] w fun e w' => e = .returned (.tuple #[.int .u64 ((x.r.getD 20 0 : Nat) : Int), .bool true]) ∧ Below w.heap.size w w' := by
  have G := Lib.hid (h.gr (i := 20) (by omega))
  generalize ((x.r.getD 20 0 : Nat) : Int) = g at *
  have X1 : Hid (Own w w.heap.size x.cells 26 (w.alloc (.cells x.cells.toArray 26))) := Own.newL (Below.refl _ _) _ _
  generalize x.cells = XC at *
  go_enter Tryd.func39, Tryd.ntmps39
  go_upto_region 1 with (fail)
  generalize w.alloc (.cells XC.toArray 26) = w1 at *
  have c := X1.out.cell G.out
  go_wp2
  go_ret2
  exact ⟨rfl, X1.out.bel⟩

set_option maxHeartbeats 1000000 in
theorem get4 (x : Se) (h : x.Ok) (time me : Int) (w : World) : Calls Tryd.prog 39 #[.agg x.cells.toArray, .int .i64 4, .int .u64 time, .int .i64 me] w fun e w' => e = .returned (.tuple #[.int .u64 ((x.r.getD 21 0 : Nat) : Int), .bool true]) ∧ Below w.heap.size w w' := by
  have G := Lib.hid (h.gr (i := 21) (by omega))
  generalize ((x.r.getD 21 0 : Nat) : Int) = g at *
  have X1 : Hid (Own w w.heap.size x.cells 26 (w.alloc (.cells x.cells.toArray 26))) := Own.newL (Below.refl _ _) _ _
  generalize x.cells = XC at *
  go_enter Tryd.func39, Tryd.ntmps39
  go_upto_region 1 with (fail)
  generalize w.alloc (.cells XC.toArray 26) = w1 at *
  have c := X1.out.cell G.out
  go_wp2
  go_ret2
  exact ⟨rfl, X1.out.bel⟩

set_option maxHeartbeats 1000000 in
theorem get5 (x : Se) (h : x.Ok) (time me : Int) (w : World) : Calls Tryd.prog 39 #[.agg x.cells.toArray, .int .i64 5, .int .u64 time, .int .i64 me] w fun e w' => e = .returned (.tuple #[.int .u64 (x.ma : Int), .bool true]) ∧ Below w.heap.size w w' := by
  have G := Lib.hid h.g25
  have hm0 : 0 ≤ (x.ma : Int) := by omega
  have hm1 : (x.ma : Int) < 18446744073709551616 := by have := h.m; omega
  generalize (x.ma : Int) = g at *
  have X1 : Hid (Own w w.heap.size x.cells 26 (w.alloc (.cells x.cells.toArray 26))) := Own.newL (Below.refl _ _) _ _
  generalize x.cells = XC at *
  go_enter Tryd.func39, Tryd.ntmps39
  go_upto_region 1 with (fail)
  generalize w.alloc (.cells XC.toArray 26) = w1 at *
  have c := X1.out.cell G.out
  go_wp2
  go_ret2
  exact ⟨rfl, X1.out.bel⟩

set_option maxHeartbeats 1000000 in
theorem get6 (x : Se) (h : x.Ok) (time me : Int) (w : World) : Calls Tryd.prog 39 #[.agg x.cells.toArray, .int .i64 6, .int .u64 time, .int .i64 me] w fun e w' => e = .returned (.tuple #[.int .u64 ((flagN x.op : Nat) : Int), .bool true]) ∧ Below w.heap.size w w' := by
  have G := Lib.hid h.g22
  have FL := Lib.hid (fun W => flag_calls x.op W)
  generalize ((flagN x.op : Nat) : Int) = g at *
  have X1 : Hid (Own w w.heap.size x.cells 26 (w.alloc (.cells x.cells.toArray 26))) := Own.newL (Below.refl _ _) _ _
  generalize x.cells = XC at *
  go_enter Tryd.func39, Tryd.ntmps39
  go_upto_region 1 with (fail)
  generalize w.alloc (.cells XC.toArray 26) = w1 at *
  have c := X1.out.cell G.out
  go_wp2_with (go_at_call 51; refine (FL.out _).mono ?_; rintro e wf ⟨rfl, rfl⟩)
  go_ret2
  exact ⟨rfl, X1.out.bel⟩

set_option maxHeartbeats 1000000 in
theorem get7 (x : Se) (h : x.Ok) (time me : Int) (w : World) : Calls Tryd.prog 39 #[.agg x.cells.toArray, .int .i64 7, .int .u64 time, .int .i64 me] w fun e w' => e = .returned (.tuple #[.int .u64 time, .bool true]) ∧ Below w.heap.size w w' := by
  have X1 : Hid (Own w w.heap.size x.cells 26 (w.alloc (.cells x.cells.toArray 26))) := Own.newL (Below.refl _ _) _ _
  generalize x.cells = XC at *
  go_enter Tryd.func39, Tryd.ntmps39
  go_upto_region 1 with (fail)
  generalize w.alloc (.cells XC.toArray 26) = w1 at *
  go_wp2
  go_ret2
  exact ⟨rfl, X1.out.bel⟩

set_option maxHeartbeats 1000000 in
theorem get8 (x : Se) (h : x.Ok) (time me : Int) (w : World) : Calls Tryd.prog 39 #[.agg x.cells.toArray, .int .i64 8, .int .u64 time, .int .i64 me] w fun e w' => e = .returned (.tuple #[.int .u64 (IntKind.u64.wrap me), .bool true]) ∧ Below w.heap.size w w' := by
  have X1 : Hid (Own w w.heap.size x.cells 26 (w.alloc (.cells x.cells.toArray 26))) := Own.newL (Below.refl _ _) _ _
  generalize x.cells = XC at *
  go_enter Tryd.func39, Tryd.ntmps39
  go_upto_region 1 with (fail)
  generalize w.alloc (.cells XC.toArray 26) = w1 at *
  go_wp2
  go_ret2
  exact ⟨rfl, X1.out.bel⟩

set_option maxHeartbeats 1000000 in
theorem get_out (cs : List Value) (n time me : Int) (hn : ¬ (0 ≤ n ∧ n ≤ 8)) (w : World) : Calls Tryd.prog 39 #[.agg cs.toArray, .int .i64 n, .int .u64 time, .int .i64 me] w fun e w' => e = .returned (.tuple #[.int .u64 0, .bool false]) ∧ Below w.heap.size w w' := by
  have n0 : (n == 0) = false := by rw [beq_eq_false_iff_ne]; omega
  have n1 : (n == 1) = false := by rw [beq_eq_false_iff_ne]; omega
  have n2 : (n == 2) = false := by rw [beq_eq_false_iff_ne]; omega
  have n3 : (n == 3) = false := by rw [beq_eq_false_iff_ne]; omega
  have n4 : (n == 4) = false := by rw [beq_eq_false_iff_ne]; omega
  have n5 : (n == 5) = false := by rw [beq_eq_false_iff_ne]; omega
  have n6 : (n == 6) = false := by rw [beq_eq_false_iff_ne]; omega
  have n7 : (n == 7) = false := by rw [beq_eq_false_iff_ne]; omega
  have n8 : (n == 8) = false := by rw [beq_eq_false_iff_ne]; omega
  have X1 : Hid (Own w w.heap.size cs 26 (w.alloc (.cells cs.toArray 26))) := Own.newL (Below.refl _ _) _ _
  clear hn
  go_enter Tryd.func39, Tryd.ntmps39
  go_upto_region 1 with (fail)
  generalize w.alloc (.cells cs.toArray 26) = w1 at *
  go_wp2
  go_ret2
  exact ⟨rfl, X1.out.bel⟩
set_option maxHeartbeats 1000000 in
theorem set_out (n v : Int) (hn : ¬ (0 ≤ n ∧ n ≤ 6)) (b : Nat) (w : World) : Calls Tryd.prog 40 #[.pointer (some ⟨b, 0, none⟩), .int .i64 n, .int .u64 v] w fun e w' => e = .returned (.bool false) ∧ w = w' := by
  have n0 : (n == 0) = false := by rw [beq_eq_false_iff_ne]; omega
  have n1 : (n == 1) = false := by rw [beq_eq_false_iff_ne]; omega
  have n2 : (n == 2) = false := by rw [beq_eq_false_iff_ne]; omega
  have n3 : (n == 3) = false := by rw [beq_eq_false_iff_ne]; omega
  have n4 : (n == 4) = false := by rw [beq_eq_false_iff_ne]; omega
  have n5 : (n == 5) = false := by rw [beq_eq_false_iff_ne]; omega
  have n6 : (n == 6) = false := by rw [beq_eq_false_iff_ne]; omega
  clear hn
  go_enter Tryd.func40, Tryd.ntmps40
  go_wp2
  go_ret
  exact ⟨rfl, rfl⟩
def setS (x : Se) (k v : Nat) : Se := if k < 5 then { x with r := x.r.set (17 + k) v } else if k = 5 then { x with ma := v % 256 } else { x with op := decide (v % 2 = 1) }
theorem setS_ok {x : Se} (h : x.Ok) {k v : Nat} (hv : v < 2 ^ 64) : (setS x k v).Ok := by
  unfold setS
  split
  · exact ⟨by simp [h.l], set_lt h.w hv, h.s, h.p, h.m⟩
  · split
    · exact ⟨h.l, h.w, h.s, h.p, by show v % 256 < 2 ^ 32; omega⟩
    · exact ⟨h.l, h.w, h.s, h.p, h.m⟩
theorem and255 {v : Nat} (hv : v < 2 ^ 64) : bits .and .u64 (v : Int) 255 = ((v % 256 : Nat) : Int) := by
  rw [show (255 : Int) = ((255 : Nat) : Int) from rfl, bits_and (k := .u64) rfl hv (by decide), show (255 : Nat) = 2 ^ 8 - 1 from rfl, Nat.and_two_pow_sub_one_eq_mod]
theorem and1 {v : Nat} (hv : v < 2 ^ 64) : bits .and .u64 (v : Int) 1 = ((v % 2 : Nat) : Int) := by
  rw [show (1 : Int) = ((1 : Nat) : Int) from rfl, bits_and (k := .u64) rfl hv (by decide), show (1 : Nat) = 2 ^ 1 - 1 from rfl, Nat.and_two_pow_sub_one_eq_mod]

set_option maxHeartbeats 1000000 in
theorem set0 (x : Se) (h : x.Ok) (v : Nat) (hv : v < 2 ^ 64) (b : Nat) (w : World) (hb : Blk w b x.cells 26) : Calls Tryd.prog 40 #[.pointer (some ⟨b, 0, none⟩), .int .i64 0, .int .u64 (v : Int)] w fun e w' => e = .returned (.bool true) ∧ Upd b (setS x 0 v).cells 26 w w' := by
  rw [show (setS x 0 v).cells = ({ x with r := x.r.set 17 v } : Se).cells from rfl]
  have U := Lib.hid ((Upd.same hb).set 17 (.int .u64 (v : Int)))
  rw [h.sr (i := 17) (by omega) v] at U
  have fr := hb.unfrozen 17
  have hc := hb.cellAt (h.gr (i := 17) (by omega))
  generalize (v : Int) = vi at *
  go_enter Tryd.func40, Tryd.ntmps40
  go_wp2
  go_ret
  exact ⟨rfl, U.out⟩

set_option maxHeartbeats 1000000 in
theorem set1 (x : Se) (h : x.Ok) (v : Nat) (hv : v < 2 ^ 64) (b : Nat) (w : World) (hb : Blk w b x.cells 26) : Calls Tryd.prog 40 #[.pointer (some ⟨b, 0, none⟩), .int .i64 1, .int .u64 (v : Int)] w fun e w' => e = .returned (.bool true) ∧ Upd b (setS x 1 v).cells 26 w w' := by
  rw [show (setS x 1 v).cells = ({ x with r := x.r.set 18 v } : Se).cells from rfl]
  have U := Lib.hid ((Upd.same hb).set 18 (.int .u64 (v : Int)))
  rw [h.sr (i := 18) (by omega) v] at U
  have fr := hb.unfrozen 18
  have hc := hb.cellAt (h.gr (i := 18) (by omega))
  generalize (v : Int) = vi at *
  go_enter Tryd.func40, Tryd.ntmps40
  go_wp2
  go_ret
  exact ⟨rfl, U.out⟩

set_option maxHeartbeats 1000000 in
theorem set2 (x : Se) (h : x.Ok) (v : Nat) (hv : v < 2 ^ 64) (b : Nat) (w : World) (hb : Blk w b x.cells 26) : Calls Tryd.prog 40 #[.pointer (some ⟨b, 0, none⟩), .int .i64 2, .int .u64 (v : Int)] w fun e w' => e = .returned (.bool true) ∧ Upd b (setS x 2 v).cells 26 w w' := by
  rw [show (setS x 2 v).cells = ({ x with r := x.r.set 19 v } : Se).cells from rfl]
  have U := Lib.hid ((Upd.same hb).set 19 (.int .u64 (v : Int)))
  rw [h.sr (i := 19) (by omega) v] at U
  have fr := hb.unfrozen 19
  have hc := hb.cellAt (h.gr (i := 19) (by omega))
  generalize (v : Int) = vi at *
  go_enter Tryd.func40, Tryd.ntmps40
  go_wp2
  go_ret
  exact ⟨rfl, U.out⟩

set_option maxHeartbeats 1000000 in
theorem set3 (x : Se) (h : x.Ok) (v : Nat) (hv : v < 2 ^ 64) (b : Nat) (w : World) (hb : Blk w b x.cells 26) : Calls Tryd.prog 40 #[.pointer (some ⟨b, 0, none⟩), .int .i64 3, .int .u64 (v : Int)] w fun e w' => e = .returned (.bool true) ∧ Upd b (setS x 3 v).cells 26 w w' := by
  rw [show (setS x 3 v).cells = ({ x with r := x.r.set 20 v } : Se).cells from rfl]
  have U := Lib.hid ((Upd.same hb).set 20 (.int .u64 (v : Int)))
  rw [h.sr (i := 20) (by omega) v] at U
  have fr := hb.unfrozen 20
  have hc := hb.cellAt (h.gr (i := 20) (by omega))
  generalize (v : Int) = vi at *
  go_enter Tryd.func40, Tryd.ntmps40
  go_wp2
  go_ret
  exact ⟨rfl, U.out⟩

set_option maxHeartbeats 1000000 in
theorem set4 (x : Se) (h : x.Ok) (v : Nat) (hv : v < 2 ^ 64) (b : Nat) (w : World) (hb : Blk w b x.cells 26) : Calls Tryd.prog 40 #[.pointer (some ⟨b, 0, none⟩), .int .i64 4, .int .u64 (v : Int)] w fun e w' => e = .returned (.bool true) ∧ Upd b (setS x 4 v).cells 26 w w' := by
  rw [show (setS x 4 v).cells = ({ x with r := x.r.set 21 v } : Se).cells from rfl]
  have U := Lib.hid ((Upd.same hb).set 21 (.int .u64 (v : Int)))
  rw [h.sr (i := 21) (by omega) v] at U
  have fr := hb.unfrozen 21
  have hc := hb.cellAt (h.gr (i := 21) (by omega))
  generalize (v : Int) = vi at *
  go_enter Tryd.func40, Tryd.ntmps40
  go_wp2
  go_ret
  exact ⟨rfl, U.out⟩

set_option maxHeartbeats 1000000 in
theorem set5 (x : Se) (h : x.Ok) (v : Nat) (hv : v < 2 ^ 64) (b : Nat) (w : World) (hb : Blk w b x.cells 26) : Calls Tryd.prog 40 #[.pointer (some ⟨b, 0, none⟩), .int .i64 5, .int .u64 (v : Int)] w fun e w' => e = .returned (.bool true) ∧ Upd b (setS x 5 v).cells 26 w w' := by
  rw [show (setS x 5 v).cells = ({ x with ma := v % 256 } : Se).cells from rfl]
  have U := Lib.hid ((Upd.same hb).set 25 (.int .u32 ((v % 256 : Nat) : Int)))
  rw [h.s25 (v % 256)] at U
  have fr := hb.unfrozen 25
  have hc := hb.cellAt (h.g25)
  have ha := and255 hv
  have q0 : 0 ≤ ((v % 256 : Nat) : Int) := by omega
  have q1 : ((v % 256 : Nat) : Int) < 4294967296 := by omega
  generalize ((v % 256 : Nat) : Int) = q at *
  generalize (v : Int) = vi at *
  go_enter Tryd.func40, Tryd.ntmps40
  go_wp2
  go_ret
  exact ⟨rfl, U.out⟩

set_option maxHeartbeats 1000000 in
theorem set6 (x : Se) (h : x.Ok) (v : Nat) (hv : v < 2 ^ 64) (b : Nat) (w : World) (hb : Blk w b x.cells 26) : Calls Tryd.prog 40 #[.pointer (some ⟨b, 0, none⟩), .int .i64 6, .int .u64 (v : Int)] w fun e w' => e = .returned (.bool true) ∧ Upd b (setS x 6 v).cells 26 w w' := by
  rw [show (setS x 6 v).cells = ({ x with op := decide (v % 2 = 1) } : Se).cells from rfl]
  have U := Lib.hid ((Upd.same hb).set 22 (.bool (decide (v % 2 = 1))))
  rw [h.s22 (decide (v % 2 = 1))] at U
  have fr := hb.unfrozen 22
  have hc := hb.cellAt (h.g22)
  have ha := and1 hv
  have q0 : (((v % 2 : Nat) : Int) == 1) = decide (v % 2 = 1) := by rw [Bool.eq_iff_iff, beq_iff_eq, decide_eq_true_iff]; omega
  generalize decide (v % 2 = 1) = bq at *
  generalize ((v % 2 : Nat) : Int) = q at *
  generalize (v : Int) = vi at *
  go_enter Tryd.func40, Tryd.ntmps40
  go_wp2
  go_ret
  exact ⟨rfl, U.out⟩
end Go.Proofs.YtjlodddlbgpcdaaDoor.Walks
