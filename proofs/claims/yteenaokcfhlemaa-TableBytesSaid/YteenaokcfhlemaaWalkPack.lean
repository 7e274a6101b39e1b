/- Walks through the functions of the statement, and the statement over them: each contract says what the call answers and that nothing else changes. -/
import Derived.Test.YteenaokcfhlemaaProg
import Derived.Laws.BytesString
import Derived.Test.YteenaokcfhlemaaBits
import Derived.Test.YteenaokcfhlemaaHeap
import Derived.Test.YteenaokcfhlemaaAid
import Derived.Lib.Hide
import Derived.Test.YteenaokcfhlemaaArr
import Derived.Test.YteenaokcfhlemaaEql

import Derived.WalkKit
import Derived.WalkSpells
import Derived.WalkLawsBesides
import Derived.Deep.QuietTactic
import Derived.BigQuiet
import Derived.Deep.RegionHeld3
import Derived.Deep.DeepCutAuto
import Derived.Deep.CutBlock
import Derived.Lib.SlBytesConst
import Derived.StillTailTactics
import Derived.Laws.MakeOwn
import Derived.Deep.AppendLies
import Derived.Laws.CopyOwn
import Derived.Maps.AppendAt
import Derived.Deep.Upon
import Derived.Deep.AppendSrc
import Derived.RegionTactic
namespace Go.Proofs.Yteenaokcfhlemaa.Walks
set_option linter.unusedVariables false
set_option linter.unusedSimpArgs false
open Go.RowKit Go.Proofs.Yteenaokcfhlemaa.Bits Go.Proofs.Yteenaokcfhlemaa.Heap Go.Proofs.Yteenaokcfhlemaa.Aid Go.Proofs.Yteenaokcfhlemaa.Arr Go.Proofs.Yteenaokcfhlemaa.Eql

theorem ret_int {k : IntKind} {a b : Int} (h : a = b) : Ending.returned (.int k a) = .returned (.int k b) := by rw [h]
theorem ret_bool {a b : Bool} (h : a = b) : Ending.returned (.bool a) = .returned (.bool b) := by rw [h]
/-- The block that holds the instruction, in any later world. -/
structure Inv (w : World) (cs : List Value) (t : TypeId) (w' : World) : Prop where
  b : Below w.heap.size w w'
  k : Blk w' w.heap.size cs t
  z : w.heap.size < w'.heap.size
theorem Inv.step {w w1 w2 : World} {cs : List Value} {t : TypeId} (h : Inv w cs t w1) (hb : Below w1.heap.size w1 w2) : Inv w cs t w2 :=
  ⟨h.b.trans (hb.mono h.b.size), h.k.below hb h.z, Nat.lt_of_lt_of_le h.z hb.size⟩
theorem Inv.drewN {w w1 : World} {cs : List Value} {t : TypeId} (h : Inv w cs t w1) (m : Nat) : Inv w cs t (w1.drewN m) :=
  ⟨below_drewN h.b m, h.k.drewN m, h.z⟩
theorem Inv.new (w : World) (A : Array Value) (t : TypeId) : Inv w A.toList t (w.alloc (.cells A t)) :=
  ⟨(Below.refl _ _).alloc (Nat.le_refl _) _, Blk.new w _ _, by simp⟩
theorem Inv.set {w w1 : World} {cs : List Value} {t : TypeId} (h : Inv w cs t w1) (k : Nat) (v : Value) : Inv w (cs.set k v) t (w1.setCell ⟨w.heap.size, k, none⟩ v) :=
  ⟨h.b.setCell (Nat.le_refl _) v, h.k.set k v, by have := h.z; simpa [World.setCell] using this⟩
theorem Inv.setAll {w w1 : World} {cs : List Value} {t : TypeId} (h : Inv w cs t w1) (vs : List Value) (hl : vs.length = cs.length) : Inv w vs t (w1.setCells w.heap.size 0 vs) :=
  ⟨below_setCells h.b (Nat.le_refl _) 0 vs, blk_setAll h.k hl, by have := h.z; rw [size_setCells]; exact this⟩
/-- A call that writes block b alone (of those that were), which then holds these cells. -/
structure Upd (b : Nat) (cs : List Value) (t : TypeId) (w w' : World) : Prop where
  k : Keep (fun i => i = b) w w'
  c : Blk w' b cs t
theorem Upd.same {b : Nat} {cs : List Value} {t : TypeId} {w : World} (h : Blk w b cs t) : Upd b cs t w w := ⟨Keep.refl _ _, h⟩
theorem Upd.drewN {b : Nat} {cs : List Value} {t : TypeId} {w w' : World} (h : Upd b cs t w w') (n : Nat) : Upd b cs t w (w'.drewN n) := ⟨h.k.drewN n, h.c.drewN n⟩
theorem Upd.set {b : Nat} {cs : List Value} {t : TypeId} {w w' : World} (h : Upd b cs t w w') (i : Nat) (v : Value) : Upd b (cs.set i v) t w (w'.setCell ⟨b, i, none⟩ v) :=
  ⟨h.k.setCell (fun _ => rfl) v, h.c.set i v⟩
theorem Upd.setAll {b : Nat} {cs : List Value} {t : TypeId} {w w' : World} (h : Upd b cs t w w') (vs : List Value) (hl : vs.length = cs.length) : Upd b vs t w (w'.setCells b 0 vs) :=
  ⟨keep_setCells h.k (fun _ => rfl) 0 vs, blk_setAll h.c hl⟩
theorem Upd.trans {b : Nat} {cs cs' : List Value} {t t' : TypeId} {w w' w'' : World} (h : Upd b cs t w w') (k : Upd b cs' t' w' w'') : Upd b cs' t' w w'' := ⟨h.k.trans k.k, k.c⟩
theorem Upd.step {b : Nat} {cs : List Value} {t : TypeId} {w w' w'' : World} (h : Upd b cs t w w') (k : Below w'.heap.size w' w'') : Upd b cs t w w'' :=
  ⟨h.k.step (S' := fun _ => False) (Keep.of_below k) (fun _ _ h => h.elim), h.c.below k h.c.lt⟩
theorem Upd.below {b : Nat} {cs : List Value} {t : TypeId} {w0 w w' : World} (h : Upd b cs t w w') (h0 : Below w0.heap.size w0 w) (hb : w0.heap.size ≤ b) : Below w0.heap.size w0 w' :=
  Keep.belowB h0 h.k h0.size (fun i hi e => by omega)
theorem Upd.blk {b b' : Nat} {cs cs' : List Value} {t t' : TypeId} {w w' : World} (h : Upd b cs t w w') (k : Blk w b' cs' t') (hb : b' ≠ b) : Blk w' b' cs' t' := k.keep h.k hb
theorem Inv.upd {w w1 w2 : World} {cs cs' : List Value} {t t' : TypeId} (h : Inv w cs t w1) (u : Upd w.heap.size cs' t' w1 w2) : Inv w cs' t' w2 :=
  ⟨u.below h.b (Nat.le_refl _), u.c, Nat.lt_of_lt_of_le h.z u.k.size⟩
theorem Inv.other {w w1 w2 : World} {cs cs' : List Value} {t t' : TypeId} {b : Nat} (h : Inv w cs t w1) (u : Upd b cs' t' w1 w2) (hb : w.heap.size < b) : Inv w cs t w2 :=
  ⟨u.below h.b (Nat.le_of_lt hb), u.blk h.k (by omega), Nat.lt_of_lt_of_le h.z u.k.size⟩
/-- A block of the call's own (made since w) that holds these cells; nothing that was there at w has changed. -/
structure Own (w : World) (b : Nat) (cs : List Value) (t : TypeId) (w' : World) : Prop where
  bel : Below w.heap.size w w'
  n : w.heap.size ≤ b
  k : Blk w' b cs t
theorem Own.lt {w w1 : World} {b : Nat} {cs : List Value} {t : TypeId} (h : Own w b cs t w1) : b < w1.heap.size := h.k.lt
theorem Own.new {w w1 : World} (hb : Below w.heap.size w w1) (A : Array Value) (t : TypeId) : Own w w1.heap.size A.toList t (w1.alloc (.cells A t)) :=
  ⟨hb.alloc hb.size _, hb.size, Blk.new w1 _ _⟩
theorem Own.newL {w w1 : World} (hb : Below w.heap.size w w1) (cs : List Value) (t : TypeId) : Own w w1.heap.size cs t (w1.alloc (.cells cs.toArray t)) := Own.new hb cs.toArray t
theorem Own.alloc {w w1 : World} {b : Nat} {cs : List Value} {t : TypeId} (h : Own w b cs t w1) (o : Obj) : Own w b cs t (w1.alloc o) := ⟨h.bel.alloc h.bel.size _, h.n, h.k.alloc o⟩
theorem Own.step {w w1 w2 : World} {b : Nat} {cs : List Value} {t : TypeId} (h : Own w b cs t w1) (hb : Below w1.heap.size w1 w2) : Own w b cs t w2 :=
  ⟨h.bel.trans (hb.mono h.bel.size), h.n, h.k.below hb h.lt⟩
theorem Own.drewN {w w1 : World} {b : Nat} {cs : List Value} {t : TypeId} (h : Own w b cs t w1) (m : Nat) : Own w b cs t (w1.drewN m) := ⟨below_drewN h.bel m, h.n, h.k.drewN m⟩
theorem Own.set {w w1 : World} {b : Nat} {cs : List Value} {t : TypeId} (h : Own w b cs t w1) (k : Nat) (v : Value) : Own w b (cs.set k v) t (w1.setCell ⟨b, k, none⟩ v) :=
  ⟨h.bel.setCell h.n v, h.n, h.k.set k v⟩
theorem Own.setAll {w w1 : World} {b : Nat} {cs : List Value} {t : TypeId} (h : Own w b cs t w1) (vs : List Value) (hl : vs.length = cs.length) : Own w b vs t (w1.setCells b 0 vs) :=
  ⟨below_setCells h.bel h.n 0 vs, h.n, blk_setAll h.k hl⟩
theorem Own.setO {w w1 : World} {b b' : Nat} {cs : List Value} {t : TypeId} (h : Own w b cs t w1) (hb : b' ≠ b) (hn : w.heap.size ≤ b') (k : Nat) (v : Value) : Own w b cs t (w1.setCell ⟨b', k, none⟩ v) :=
  ⟨h.bel.setCell hn v, h.n, h.k.other hb v⟩
theorem Own.setAllO {w w1 : World} {b b' : Nat} {cs : List Value} {t : TypeId} (h : Own w b cs t w1) (hb : b' ≠ b) (hn : w.heap.size ≤ b') (o : Nat) (vs : List Value) : Own w b cs t (w1.setCells b' o vs) :=
  ⟨below_setCells h.bel hn o vs, h.n, blk_setOther h.k (Ne.symm hb) o vs⟩
theorem Own.upd {w w1 w2 : World} {b : Nat} {cs cs' : List Value} {t t' : TypeId} (h : Own w b cs t w1) (u : Upd b cs' t' w1 w2) : Own w b cs' t' w2 := ⟨u.below h.bel h.n, h.n, u.c⟩
theorem Own.updO {w w1 w2 : World} {b b' : Nat} {cs cs' : List Value} {t t' : TypeId} (h : Own w b cs t w1) (hb : b' ≠ b) (hn : w.heap.size ≤ b') (u : Upd b' cs' t' w1 w2) : Own w b cs t w2 := ⟨u.below h.bel hn, h.n, u.blk h.k (Ne.symm hb)⟩
theorem Own.cell {w w1 : World} {b : Nat} {cs : List Value} {t : TypeId} (h : Own w b cs t w1) {i : Nat} {v : Value} (hv : cs[i]? = some v) : w1.cell? ⟨b, i, none⟩ = some v := h.k.cellAt hv
theorem Own.fro {w w1 : World} {b : Nat} {cs : List Value} {t : TypeId} (h : Own w b cs t w1) (i : Nat) : w1.frozen? ⟨b, i, none⟩ = false := h.k.unfrozen i
theorem Own.all {w w1 : World} {b : Nat} {cs : List Value} {t : TypeId} (h : Own w b cs t w1) : w1.rangeAt b 0 cs := range_all h.k
theorem Own.there {w w1 : World} {b : Nat} {cs : List Value} {t : TypeId} (h : Own w b cs t w1) {n : Nat} (hn : n ≤ cs.length) : w1.there b 0 n := there_of_blk h.k (by omega)
theorem Own.drew' {w w1 w2 : World} {b : Nat} {cs : List Value} {t : TypeId} (h : Own w b cs t w1) (hm : ∃ n, w2 = w1.drewN n) : Own w b cs t w2 := by
  obtain ⟨n, rfl⟩ := hm
  exact h.drewN n
/-- Is this load, this store, ahead? (Asked ahead of a law, so that a law that does not fit fails at once.) -/
theorem load_gate {P : Program} {ops : Array Oper} {Q : Exit → Act → World → Prop} {rest : List Oper} {a : Act} {w : World} {dst : Option Tmp} {t : TypeId} {pos : String} {aft : Array Edge} {g : Option (Nat × Bool)} (ty : TypeId) (n : Tmp)
    (h : wpList P ops Q (⟨dst, .load ty (.tmp n), t, pos, aft, g⟩ :: rest) a w) : wpList P ops Q (⟨dst, .load ty (.tmp n), t, pos, aft, g⟩ :: rest) a w := h
theorem store_gate {P : Program} {ops : Array Oper} {Q : Exit → Act → World → Prop} {rest : List Oper} {a : Act} {w : World} {dst : Option Tmp} {t : TypeId} {pos : String} {aft : Array Edge} {g : Option (Nat × Bool)} (ty : TypeId) (n m : Tmp)
    (h : wpList P ops Q (⟨dst, .store ty (.tmp n) (.tmp m), t, pos, aft, g⟩ :: rest) a w) : wpList P ops Q (⟨dst, .store ty (.tmp n) (.tmp m), t, pos, aft, g⟩ :: rest) a w := h
/-- Is this call ahead, at a step of a region that draws? -/
theorem call_gate {P : Program} {ops : Array Oper} {a : Act} {w : World} {K : Act → World → Prop} {Q : Exit → Act → World → Prop} {E : Prop} {dst : Option Tmp} {t : TypeId} {pos : String} {aft : Array Edge} {g : Option (Nat × Bool)} {args : Array Operand} {ats : Array TypeId} (f : FuncId)
    (h : if Region.wanted ⟨dst, .call { callee := .value (.func f), args := args, argTypes := ats }, t, pos, aft, g⟩ (yielded ops a.tmps) = true then Oper.wp P ⟨dst, .call { callee := .value (.func f), args := args, argTypes := ats }, t, pos, aft, g⟩ a w K Q else E) :
    if Region.wanted ⟨dst, .call { callee := .value (.func f), args := args, argTypes := ats }, t, pos, aft, g⟩ (yielded ops a.tmps) = true then Oper.wp P ⟨dst, .call { callee := .value (.func f), args := args, argTypes := ats }, t, pos, aft, g⟩ a w K Q else E := h
theorem fld_zero {v : Nat} {a n : Int} (h : a < 0 ∨ a > 63 ∨ n ≤ 0) : (0 : Int) = ((fld v a n : Nat) : Int) := by
  unfold fld; rw [if_pos h]; rfl
theorem div_two_pow (v : Nat) (a : Int) : (v : Int) / 2 ^ a.toNat = ((v / 2 ^ a.toNat : Nat) : Int) := by simp
theorem mask_wrap {n : Int} (h0 : 0 < n) (h1 : n < 64) : IntKind.u64.wrap (IntKind.u64.wrap (2 ^ n.toNat) - 1) = ((2 ^ n.toNat - 1 : Nat) : Int) := by
  have hlt : 2 ^ n.toNat < 2 ^ 64 := Nat.pow_lt_pow_right (by omega) (by omega)
  have hp := pow_pos n.toNat
  have e : (2 : Int) ^ n.toNat = ((2 ^ n.toNat : Nat) : Int) := by simp
  rw [e, wrap_lt (k := .u64) rfl hlt, show ((2 ^ n.toNat : Nat) : Int) - 1 = ((2 ^ n.toNat - 1 : Nat) : Int) by omega]
  exact wrap_lt (k := .u64) rfl (Nat.lt_of_le_of_lt (Nat.sub_le _ _) hlt)
theorem fld_small {v : Nat} (hv : v < 2 ^ 64) {a n : Int} (h : 0 ≤ a ∧ a ≤ 63) (h0 : 0 < n) (h1 : n < 64) :
    bits .and .u64 ((v : Int) / 2 ^ a.toNat) (IntKind.u64.wrap (IntKind.u64.wrap (2 ^ n.toNat) - 1)) = ((fld v a n : Nat) : Int) := by
  have hlt : 2 ^ n.toNat < 2 ^ 64 := Nat.pow_lt_pow_right (by omega) (by omega)
  rw [mask_wrap h0 h1, div_two_pow, bits_and rfl (Nat.lt_of_le_of_lt (Nat.div_le_self _ _) hv) (Nat.lt_of_le_of_lt (Nat.sub_le _ _) hlt), Nat.and_two_pow_sub_one_eq_mod]
  unfold fld; rw [if_neg (by omega)]
theorem fld_large {v : Nat} (hv : v < 2 ^ 64) {a n : Int} (h : 0 ≤ a ∧ a ≤ 63) (h1 : 64 ≤ n) : (v : Int) / 2 ^ a.toNat = ((fld v a n : Nat) : Int) := by
  unfold fld
  rw [if_neg (by omega), Nat.mod_eq_of_lt, div_two_pow]
  exact Nat.lt_of_lt_of_le (Nat.lt_of_le_of_lt (Nat.div_le_self _ _) hv) (Nat.pow_le_pow_right (by omega) (by omega))
set_option maxHeartbeats 1000000 in
theorem field_calls {v : Nat} (hv : v < 2 ^ 64) (a n : Int) (w : World) :
    Calls Try.prog 19 #[.int .u64 v, .int .i64 a, .int .i64 n] w fun e w' => e = .returned (.int .u64 (fld v a n)) ∧ w = w' := by
  go_enter Try.func19, Try.ntmps19
  go_wp2
  · go_ret
    exact ⟨ret_int (fld_zero (by omega)), rfl⟩
  · go_ret
    exact ⟨ret_int (fld_small hv ⟨by omega, by omega⟩ (by omega) (by omega)), rfl⟩
  · go_ret
    exact ⟨ret_int (fld_large hv ⟨by omega, by omega⟩ (by omega)), rfl⟩
  · go_ret
    exact ⟨ret_int (fld_zero (by omega)), rfl⟩
  · go_ret
    exact ⟨ret_int (fld_zero (by omega)), rfl⟩
theorem wth_same {v x : Nat} {a n : Int} (h : a < 0 ∨ a > 63 ∨ n ≤ 0) : (v : Int) = ((wth v a n x : Nat) : Int) := by
  unfold wth; rw [if_pos h]
theorem shl_wrap (m : Nat) (a : Int) : IntKind.u64.wrap ((m : Int) * 2 ^ a.toNat) = ((m * 2 ^ a.toNat % 2 ^ 64 : Nat) : Int) := by
  have e : (m : Int) * 2 ^ a.toNat = ((m * 2 ^ a.toNat : Nat) : Int) := by simp
  rw [e]; exact wrap_nat (k := .u64) rfl _
theorem wth_mask {v x m : Nat} (hv : v < 2 ^ 64) (hx : x < 2 ^ 64) {a n : Int} (h : 0 ≤ a ∧ a ≤ 63) (h0 : 0 < n) (hm : m = 2 ^ (min n 64).toNat - 1) :
    bits .or .u64 (bits .andNot .u64 (v : Int) (IntKind.u64.wrap ((m : Int) * 2 ^ a.toNat))) (IntKind.u64.wrap (bits .and .u64 (x : Int) (m : Int) * 2 ^ a.toNat)) = ((wth v a n x : Nat) : Int) := by
  have hm64 : ∀ x, x % 2 ^ 64 < 2 ^ 64 := fun x => Nat.mod_lt _ (pow_pos 64)
  have hlt : m < 2 ^ 64 := by
    rw [hm]
    have : 2 ^ (min n 64).toNat ≤ 2 ^ 64 := Nat.pow_le_pow_right (by omega) (by omega)
    have := pow_pos (min n 64).toNat
    omega
  rw [bits_and rfl hx hlt, shl_wrap, shl_wrap, bits_andNot rfl hv (hm64 _), bits_or rfl (andn_lt hv (hm64 _)) (hm64 _)]
  unfold wth
  rw [if_neg (by omega), ← hm]
set_option maxHeartbeats 1000000 in
theorem with_calls {v x : Nat} (hv : v < 2 ^ 64) (hx : x < 2 ^ 64) (a n : Int) (w : World) :
    Calls Try.prog 20 #[.int .u64 v, .int .i64 a, .int .i64 n, .int .u64 x] w fun e w' => e = .returned (.int .u64 (wth v a n x)) ∧ ∃ m, w' = w.drewN m := by
  go_enter Try.func20, Try.ntmps20
  go_wp2
  · go_ret
    exact ⟨ret_int (wth_same (by omega)), 0, rfl⟩
  · go_quiet (fail)
    go_wp2
    go_ret
    refine ⟨ret_int ?_, _, rfl⟩
    rw [mask_wrap (by omega) (by omega)]
    exact wth_mask hv hx ⟨by omega, by omega⟩ (by omega) (by rw [show (min n 64).toNat = n.toNat by omega])
  · go_quiet (fail)
    go_wp2
    go_ret
    refine ⟨ret_int ?_, _, rfl⟩
    rw [show (18446744073709551615 : Int) = ((2 ^ 64 - 1 : Nat) : Int) from rfl]
    exact wth_mask hv hx ⟨by omega, by omega⟩ (by omega) (by rw [show (min n 64).toNat = 64 by omega])
  · go_ret
    exact ⟨ret_int (wth_same (by omega)), 0, rfl⟩
  · go_ret
    exact ⟨ret_int (wth_same (by omega)), 0, rfl⟩
/-- An entry's word, of a form. -/
def uFr (fr : Int) : Nat := (fr % 18446744073709551616).toNat
def packN (form : Int) (th : Bool) (fr : Int) (wr : Bool) : Nat :=
  if th = false then 0 else if form = 1 then 1 + 256 * (uFr fr % 65536) + (if wr then 2 else 0)
  else 9223372036854775808 + (65535 - uFr fr % 65536) + (if wr then 4611686018427387904 else 0)
theorem uFr_lt (fr : Int) : uFr fr < 2 ^ 64 := by unfold uFr; omega
theorem wrap_uFr (fr : Int) : IntKind.u64.wrap fr = ((uFr fr : Nat) : Int) := by rw [wrap_u64]; unfold uFr; omega
theorem wth1 (v : Nat) : wth 1 8 16 v = 1 + 256 * (v % 65536) := by
  unfold wth
  rw [if_neg (by decide)]
  have e : (2 ^ (min (16 : Int) 64).toNat - 1 : Nat) = 2 ^ 16 - 1 := rfl
  simp only []
  rw [e, Nat.and_two_pow_sub_one_eq_mod]
  have e1 : andn 1 ((2 ^ 16 - 1) * 2 ^ (8 : Int).toNat % 2 ^ 64) = 1 := by decide
  have e2 : (v % 2 ^ 16) * 2 ^ (8 : Int).toNat % 2 ^ 64 = 2 ^ 8 * (v % 65536) := by
    show (v % 65536) * 256 % 18446744073709551616 = 256 * (v % 65536)
    omega
  rw [e1, e2, Nat.or_comm, ← Nat.two_pow_add_eq_or_of_lt (by decide)]
  omega
theorem wth2 (v : Nat) : wth 9223372036854775808 0 16 v = 9223372036854775808 + v % 65536 := by
  unfold wth
  rw [if_neg (by decide)]
  have e : (2 ^ (min (16 : Int) 64).toNat - 1 : Nat) = 2 ^ 16 - 1 := rfl
  simp only []
  rw [e, Nat.and_two_pow_sub_one_eq_mod]
  have e1 : andn 9223372036854775808 ((2 ^ 16 - 1) * 2 ^ (0 : Int).toNat % 2 ^ 64) = 2 ^ 63 * 1 := by decide
  have e2 : (v % 2 ^ 16) * 2 ^ (0 : Int).toNat % 2 ^ 64 = v % 65536 := by
    show (v % 65536) * 1 % 18446744073709551616 = v % 65536
    omega
  rw [e1, e2, ← Nat.two_pow_add_eq_or_of_lt (by omega)]
theorem or2 (x : Nat) : (1 + 256 * x) ||| 2 = 1 + 256 * x + 2 := by
  have e1 : 1 + 256 * x = 2 ^ 8 * x ||| 1 := by rw [← Nat.two_pow_add_eq_or_of_lt (by decide)]; omega
  have e2 : 1 + 256 * x + 2 = 2 ^ 8 * x ||| 3 := by rw [← Nat.two_pow_add_eq_or_of_lt (by decide)]; omega
  rw [e2, e1, Nat.or_assoc]
  rfl
theorem or62 (y : Nat) (hy : y < 65536) : (9223372036854775808 + y) ||| 4611686018427387904 = 9223372036854775808 + y + 4611686018427387904 := by
  have e1 : 9223372036854775808 + y = 2 ^ 62 * 2 ||| y := by rw [← Nat.two_pow_add_eq_or_of_lt (by omega)]
  have e2 : 9223372036854775808 + y + 4611686018427387904 = 2 ^ 62 * 3 ||| y := by rw [← Nat.two_pow_add_eq_or_of_lt (by omega)]; omega
  rw [e2, e1, Nat.or_assoc, Nat.or_comm y, ← Nat.or_assoc]
  rfl
theorem not_u64 {u : Nat} (hu : u < 2 ^ 64) : (18446744073709551615 : Nat) ^^^ u = 18446744073709551615 - u := by
  apply Nat.eq_of_testBit_eq
  intro i
  have e : (18446744073709551615 : Nat) - u = 2 ^ 64 - (u + 1) := by omega
  rw [e, Nat.testBit_two_pow_sub_succ hu, Nat.testBit_xor, show (18446744073709551615 : Nat) = 2 ^ 64 - 1 from rfl, Nat.testBit_two_pow_sub_one]
  by_cases hi : i < 64
  · simp [hi]
  · simp [hi, testBit_ge hu (show 64 ≤ i by omega)]
theorem packN_lt (form : Int) (th : Bool) (fr : Int) (wr : Bool) : packN form th fr wr < 2 ^ 64 := by
  unfold packN
  split
  · omega
  · split <;> cases wr <;> simp <;> omega
theorem pack_v1 {fr : Int} : packN 1 true fr false = wth 1 8 16 (uFr fr) ∧ packN 1 true fr true = wth 1 8 16 (uFr fr) ||| 2 := by
  rw [wth1, or2]
  exact ⟨rfl, rfl⟩
theorem pack_v2 {form : Int} (h : form ≠ 1) {fr : Int} : packN form true fr false = wth 9223372036854775808 0 16 (18446744073709551615 - uFr fr) ∧ packN form true fr true = wth 9223372036854775808 0 16 (18446744073709551615 - uFr fr) ||| 4611686018427387904 := by
  have hl := uFr_lt fr
  have e : (18446744073709551615 - uFr fr) % 65536 = 65535 - uFr fr % 65536 := by omega
  rw [wth2, e, or62 _ (by omega)]
  unfold packN
  simp [h]
set_option maxHeartbeats 2000000 in
theorem pack_calls (form : Int) (th : Bool) (fr : Int) (wr : Bool) (w : World) :
    Calls Try.prog 10 #[.int .i64 form, .agg #[.bool th, .int .i64 fr, .bool wr]] w fun e w' => e = .returned (.int .u64 (packN form th fr wr : Nat)) ∧ Below w.heap.size w w' := by
  have X1 := Lib.hid (Own.new (Below.refl _ w) #[.bool th, .int .i64 fr, .bool wr] 26)
  have HW1 := Lib.hid (fun W => with_calls (v := 1) (x := uFr fr) (by decide) (uFr_lt fr) 8 16 W)
  have HW2 := Lib.hid (fun W => with_calls (v := 9223372036854775808) (x := 18446744073709551615 - uFr fr) (by decide) (by have := uFr_lt fr; omega) 0 16 W)
  have WF := Lib.hid (wrap_uFr fr)
  have HX := Lib.hid (bits_xor (k := .u64) rfl (m := 18446744073709551615) (n := uFr fr) (by decide) (uFr_lt fr))
  rw [not_u64 (uFr_lt fr)] at HX
  have L1 := wth_lt (w := 1) (by decide) 8 16 (uFr fr)
  have L2 := wth_lt (w := 9223372036854775808) (by decide) 0 16 (18446744073709551615 - uFr fr)
  have O1 := Lib.hid (bits_or (k := .u64) rfl (m := wth 1 8 16 (uFr fr)) (n := 2) L1 (by decide))
  have O2 := Lib.hid (bits_or (k := .u64) rfl (m := wth 9223372036854775808 0 16 (18446744073709551615 - uFr fr)) (n := 4611686018427387904) L2 (by decide))
  clear L1 L2
  cases th with
  | false =>
    have PR : Hid (packN form false fr wr = 0) := rfl
    generalize packN form false fr wr = res at *
    go_enter Try.func10, Try.ntmps10
    go_upto_region 1 with (fail)
    generalize w.alloc _ = w1 at *
    have d0 := X1.out.cell (i := 0) rfl
    go_wp2_with fail
    go_ret
    rw [show res = 0 from PR.out]
    exact ⟨rfl, X1.out.bel⟩
  | true =>
    by_cases hf : form = 1
    · subst hf
      have P0 := Lib.hid (@pack_v1 fr)
      generalize wth 1 8 16 (uFr fr) = W1 at *
      clear HW2 HX O2
      cases wr
      all_goals
        go_enter Try.func10, Try.ntmps10
        go_upto_region 1 with (fail)
        generalize w.alloc _ = w1 at *
        have d0 := X1.out.cell (i := 0) rfl
        have d1 := X1.out.cell (i := 1) rfl
        have d2 := X1.out.cell (i := 2) rfl
        have HC : Hid (∀ W, Calls Try.prog 20 #[.int .u64 1, .int .i64 8, .int .i64 16, .int .u64 (IntKind.u64.wrap fr)] W fun e w' => e = .returned (.int .u64 (W1 : Int)) ∧ ∃ m, w' = W.drewN m) := by
          intro W
          rw [WF.out]
          exact HW1.out W
        have d2' := fun m => (X1.out.drewN m).cell (i := 2) rfl
        go_wp2_with (go_at_call 20; refine (HC.out _).mono ?_; rintro e w2 ⟨rfl, m, rfl⟩)
        go_ret
        first | exact ⟨ret_int (by rw [P0.out.2]; exact O1.out), below_drewN X1.out.bel m⟩ | exact ⟨ret_int (by rw [P0.out.1]), below_drewN X1.out.bel m⟩
    · have P0 := Lib.hid (@pack_v2 form hf fr)
      have hff : (form == 1) = false := beq_false_of_ne hf
      generalize wth 9223372036854775808 0 16 (18446744073709551615 - uFr fr) = W1 at *
      clear HW1 O1
      cases wr
      all_goals
        go_enter Try.func10, Try.ntmps10
        go_upto_region 1 with (fail)
        generalize w.alloc _ = w1 at *
        have d0 := X1.out.cell (i := 0) rfl
        have d1 := X1.out.cell (i := 1) rfl
        have d2 := X1.out.cell (i := 2) rfl
        have HC : Hid (∀ W, Calls Try.prog 20 #[.int .u64 9223372036854775808, .int .i64 0, .int .i64 16, .int .u64 (bits .xor .u64 IntKind.u64.max (IntKind.u64.wrap fr))] W fun e w' => e = .returned (.int .u64 (W1 : Int)) ∧ ∃ m, w' = W.drewN m) := by
          intro W
          rw [WF.out, show IntKind.u64.max = ((18446744073709551615 : Nat) : Int) from rfl, HX.out]
          exact HW2.out W
        have d2' := fun m => (X1.out.drewN m).cell (i := 2) rfl
        go_wp2_with (go_at_call 20; refine (HC.out _).mono ?_; rintro e w2 ⟨rfl, m, rfl⟩)
        go_ret
        first | exact ⟨ret_int (by rw [P0.out.1]), below_drewN X1.out.bel m⟩ | exact ⟨ret_int (by rw [P0.out.2]; exact O2.out), below_drewN X1.out.bel m⟩
def unF (form : Int) (w : Nat) : Nat := if form = 1 then w / 256 % 65536 else (18446744073709551615 - w) % 65536
def unW (form : Int) (w : Nat) : Bool := if form = 1 then decide (w / 2 % 2 = 1) else decide (w / 4611686018427387904 % 2 = 1)
/-- Is a word an entry's; is anything there; where. -/
def unOk (form : Int) (w : Nat) : Bool := decide (w = 0) || decide (packN form true (unF form w : Nat) (unW form w) = w)
def unTh (form : Int) (w : Nat) : Bool := unOk form w && decide (w ≠ 0)
def unFr (form : Int) (w : Nat) : Int := if unTh form w then (unF form w : Int) else 0
def unWr (form : Int) (w : Nat) : Bool := unTh form w && unW form w
theorem fld1 (w : Nat) : fld w 8 16 = w / 256 % 65536 := by
  unfold fld; rw [if_neg (by decide)]; rfl
theorem fld2 (w : Nat) : fld w 0 16 = w % 65536 := by
  unfold fld; rw [if_neg (by decide)]
  show w / 1 % 65536 = _
  rw [Nat.div_one]
theorem and2 {w : Nat} (hw : w < 2 ^ 64) : bits .and .u64 (w : Int) 2 = ((w / 2 % 2 * 2 : Nat) : Int) := by
  have h := bits_and (k := .u64) rfl (m := w) (n := 2) hw (by decide)
  rw [show ((2 : Nat) : Int) = 2 from rfl] at h
  rw [h]
  congr 1
  apply Nat.eq_of_testBit_eq
  intro i
  rw [Nat.testBit_and, show w / 2 % 2 * 2 = w / 2 % 2 * 2 ^ 1 from rfl, testBit_mul_pow]
  rcases (by omega : i = 0 ∨ i = 1 ∨ 2 ≤ i) with h | h | h
  · subst h; simp [Nat.testBit_zero]
  · subst h
    rw [Nat.testBit_succ, Nat.testBit_zero]
    simp [Nat.testBit_zero, Nat.testBit_succ]
  · rw [testBit_ge (m := 2) (b := 2) (by decide) h, testBit_ge (m := w / 2 % 2) (b := 1) (by omega) (by omega)]; simp
theorem and1 {x : Nat} (hx : x < 2 ^ 64) : bits .and .u64 (x : Int) 1 = ((x % 2 : Nat) : Int) := by
  have h := bits_and (k := .u64) rfl (m := x) (n := 1) hx (by decide)
  rw [show (1 : Nat) = 2 ^ 1 - 1 from rfl, Nat.and_two_pow_sub_one_eq_mod] at h
  exact h
theorem size3 : (Try.prog.info? 26).map (·.size) = some 3 := by kernel_rfl
def unV (form : Int) (w : Nat) : Value := .tuple #[.agg #[.bool (unTh form w), .int .i64 (unFr form w), .bool (unWr form w)], .bool (unOk form w)]
theorem un_zero (form : Int) : unV form 0 = .tuple #[.agg #[.bool false, .int .i64 0, .bool false], .bool true] := by
  have h1 : unOk form 0 = true := by unfold unOk; rfl
  have h2 : unTh form 0 = false := by unfold unTh; rw [h1]; rfl
  unfold unV unFr unWr
  rw [h1, h2]; rfl
theorem un_yes {form : Int} {w : Nat} (h0 : w ≠ 0) (hp : packN form true (unF form w : Nat) (unW form w) = w) : unV form w = .tuple #[.agg #[.bool true, .int .i64 (unF form w : Nat), .bool (unW form w)], .bool true] := by
  have h1 : unOk form w = true := by unfold unOk; rw [decide_eq_true hp, Bool.or_true]
  have h2 : unTh form w = true := by unfold unTh; rw [h1, decide_eq_true h0]; rfl
  unfold unV unFr unWr
  rw [h1, h2]; rfl
theorem un_no {form : Int} {w : Nat} (h0 : w ≠ 0) (hp : ¬ packN form true (unF form w : Nat) (unW form w) = w) : unV form w = .tuple #[.agg #[.bool false, .int .i64 0, .bool false], .bool false] := by
  have h1 : unOk form w = false := by unfold unOk; rw [decide_eq_false hp, decide_eq_false h0]; rfl
  have h2 : unTh form w = false := by unfold unTh; rw [h1]; rfl
  unfold unV unFr unWr
  rw [h1, h2]; rfl
set_option maxHeartbeats 8000000 in
theorem unpack_calls (form : Int) (v : Nat) (hv : v < 2 ^ 64) (w : World) :
    Calls Try.prog 8 #[.int .i64 form, .int .u64 (v : Int)] w fun e w' => e = .returned (unV form v) ∧ Below w.heap.size w w' := by
  have R1 := Lib.hid (Own.new (Below.refl _ w) #[.bool false, .int .i64 0, .bool false] 26)
  have F1 := Lib.hid (fun W => field_calls hv 8 16 W)
  rw [fld1] at F1
  have A2 := Lib.hid (and2 hv)
  have PK := Lib.hid (fun W => pack_calls form true (unF form v : Nat) (unW form v) W)
  have U0 := Lib.hid (un_zero form)
  have UY := Lib.hid (@un_yes form v)
  have UN := Lib.hid (@un_no form v)
  have PL := Lib.hid (packN_lt form true (unF form v : Nat) (unW form v))
  have I3 := Lib.hid size3
  have N2 := Lib.hid (and1 (show v / 4611686018427387904 < 2 ^ 64 by omega))
  have nx : Hid (∀ W, Calls Try.prog 19 #[.int .u64 (bits .xor .u64 IntKind.u64.max (v : Int)), .int .i64 0, .int .i64 16] W fun e w' => e = .returned (.int .u64 (((18446744073709551615 - v) % 65536 : Nat) : Int)) ∧ W = w') := by
    intro W
    have h := bits_xor (k := .u64) rfl (m := 18446744073709551615) (n := v) (by decide) hv
    rw [not_u64 hv] at h
    rw [show IntKind.u64.max = ((18446744073709551615 : Nat) : Int) from rfl, h]
    have h2 := field_calls (v := 18446744073709551615 - v) (by omega) 0 16 W
    rw [fld2] at h2
    exact h2
  by_cases hf : form = 1
  · subst hf
    have e1 : unF 1 v = v / 256 % 65536 := rfl
    have e2 : unW 1 v = decide (v / 2 % 2 = 1) := rfl
    have hb : ((((v / 2 % 2 * 2 : Nat) : Int)) != 0) = unW 1 v := by
      rw [e2]
      rcases (by omega : v / 2 % 2 = 0 ∨ v / 2 % 2 = 1) with h | h <;> rw [h] <;> rfl
    rw [← e1] at F1
    rw [← A2.out] at hb
    have HB := Lib.hid hb
    clear e1 e2 hb A2 N2 nx
    generalize unW 1 v = uw at *
    have hfl : unF 1 v ≤ 65535 := by unfold unF; simp; omega
    generalize unF 1 v = uf at *
    have hu0 : 0 ≤ (uf : Int) := by omega
    have hu1 : (uf : Int) ≤ 65535 := by omega
    clear hfl
    generalize (uf : Int) = ui at *
    go_enter Try.func8, Try.ntmps8
    go_upto_region 1 with (fail)
    generalize w.alloc _ = w1 at *
    go_upto_region 2 with (go_at_call 19; refine (F1.out _).mono ?_; rintro e w' ⟨rfl, rfl⟩)
    simp only [HB.out]
    have X2 := Lib.hid (Own.new R1.out.bel #[.bool true, .int .i64 ui, .bool uw] 26)
    have R2 := Lib.hid (R1.out.alloc (.cells #[.bool true, .int .i64 ui, .bool uw] 26))
    have NE : Hid (w1.heap.size ≠ w.heap.size) := (Ne.symm (Nat.ne_of_lt R1.out.lt))
    clear R1
    generalize w1.alloc _ = w2 at *
    generalize w1.heap.size = NX at *
    have e0 := R2.out.cell (i := 0) rfl
    have e1 := R2.out.cell (i := 1) rfl
    have e2 := R2.out.cell (i := 2) rfl
    have f0 := R2.out.fro 0
    have f1 := R2.out.fro 1
    have f2 := R2.out.fro 2
    by_cases h0 : v = 0
    · have hz : ((v : Int) == 0) = true := beq_iff_eq.2 (by omega)
      have R4 := Lib.hid (((R2.out.set 0 (.bool false)).set 1 (.int .i64 0)).set 2 (.bool false))
      have UZ : Hid (unV 1 v = .tuple #[.agg #[.bool false, .int .i64 0, .bool false], .bool true]) := by show _ = _; rw [h0]; exact U0.out
      clear h0 UY UN U0
      generalize (v : Int) = vi at *
      go_wp2_with fail
      rw [UZ.out]
      exact bodyPost_ret (v := .tuple #[.agg #[.bool false, .int .i64 0, .bool false], .bool true]) (results_ct Try.results8 _ _ w.heap.size [.bool false, .int .i64 0, .bool false] _ rfl R4.out.all Try.underlying26 rfl (by kernel_rfl)) rfl ⟨rfl, R4.out.bel⟩
    · have hz : ((v : Int) == 0) = false := beq_false_of_ne (by omega)
      clear e0 e1 e2 f0 f1 f2
      go_upto_region 6 with (fail)
      go_upto_if 33 with (first
        | ((with_reducible refine load_gate (26) (6) ?_); refine wpList_load_mid rfl 26 (.tmp 6) rfl NX 0 rfl [.bool true, .int .i64 ui, .bool uw] _ X2.out.all Try.underlying26 rfl I3.out ?_)
        | (go_at_call 10; refine (PK.out _).mono ?_; rintro e w3 ⟨rfl, u3⟩; have R3 := Lib.hid (R2.out.step u3); have X3 := Lib.hid (X2.out.step u3); clear u3))
      have e0 := R3.out.cell (i := 0) rfl
      have e1 := R3.out.cell (i := 1) rfl
      have e2 := R3.out.cell (i := 2) rfl
      have f0 := R3.out.fro 0
      have f1 := R3.out.fro 1
      have f2 := R3.out.fro 2
      clear R2 X2
      by_cases hp : packN 1 true ui uw = v
      · have R4 := Lib.hid (((R3.out.set 0 (.bool true)).set 1 (.int .i64 ui)).set 2 (.bool uw))
        have UZ := Lib.hid (UY.out h0 hp)
        have hne : (((packN 1 true ui uw : Nat) : Int) != (v : Int)) = false := by rw [hp]; simp
        clear hp UY UN U0 PK PL h0
        generalize ((packN 1 true ui uw : Nat) : Int) = pk at *
        generalize (v : Int) = vi at *
        go_wp2_with ((with_reducible refine load_gate (26) (6) ?_); refine wpList_load_mid rfl 26 (.tmp 6) rfl NX 0 rfl [.bool true, .int .i64 ui, .bool uw] _ X3.out.all Try.underlying26 rfl I3.out ?_)
        rw [UZ.out]
        exact bodyPost_ret (v := .tuple #[.agg #[.bool true, .int .i64 ui, .bool uw], .bool true]) (results_ct Try.results8 _ _ w.heap.size [.bool true, .int .i64 ui, .bool uw] _ rfl R4.out.all Try.underlying26 rfl (by kernel_rfl)) rfl ⟨rfl, R4.out.bel⟩
      · have R4 := Lib.hid (((R3.out.set 0 (.bool false)).set 1 (.int .i64 0)).set 2 (.bool false))
        have UZ := Lib.hid (UN.out h0 hp)
        have hne : (((packN 1 true ui uw : Nat) : Int) != (v : Int)) = true := by simp <;> omega
        clear hp UY UN U0 PK PL h0
        generalize ((packN 1 true ui uw : Nat) : Int) = pk at *
        generalize (v : Int) = vi at *
        go_wp2_with fail
        rw [UZ.out]
        exact bodyPost_ret (v := .tuple #[.agg #[.bool false, .int .i64 0, .bool false], .bool false]) (results_ct Try.results8 _ _ w.heap.size [.bool false, .int .i64 0, .bool false] _ rfl R4.out.all Try.underlying26 rfl (by kernel_rfl)) rfl ⟨rfl, R4.out.bel⟩
  · have e1 : unF form v = (18446744073709551615 - v) % 65536 := by unfold unF; rw [if_neg hf]
    have e2 : unW form v = decide (v / 4611686018427387904 % 2 = 1) := by unfold unW; rw [if_neg hf]
    have hb : ((((v / 4611686018427387904 % 2 : Nat) : Int)) == 1) = unW form v := by
      rw [e2]
      rcases (by omega : v / 4611686018427387904 % 2 = 0 ∨ v / 4611686018427387904 % 2 = 1) with h | h <;> rw [h] <;> rfl
    rw [← e1] at nx
    rw [← N2.out] at hb
    have hb2 : (bits .and .u64 ((v : Int) / 4611686018427387904) 1 == 1) = unW form v := by rw [← hb]; simp
    have HB := Lib.hid hb2
    have hff : (form == 1) = false := beq_false_of_ne hf
    have hfl : unF form v ≤ 65535 := by rw [e1]; omega
    have hfl2 : v / 256 % 65536 ≤ 65535 := by omega
    clear e1 e2 hb hb2 N2
    generalize unW form v = uw at *
    generalize unF form v = uf at *
    have hu0 : 0 ≤ (uf : Int) := by omega
    have hu1 : (uf : Int) ≤ 65535 := by omega
    have hu2 : 0 ≤ ((v / 256 % 65536 : Nat) : Int) := by omega
    have hu3 : ((v / 256 % 65536 : Nat) : Int) ≤ 65535 := by omega
    clear hfl hfl2
    generalize (uf : Int) = ui at *
    generalize ((v / 256 % 65536 : Nat) : Int) = uj at *
    go_enter Try.func8, Try.ntmps8
    go_upto_region 1 with (fail)
    generalize w.alloc _ = w1 at *
    go_upto_region 2 with (go_at_call 19; refine (F1.out _).mono ?_; rintro e w' ⟨rfl, rfl⟩)
    generalize hq : ((bits .and .u64 (v : Int) 2) != 0) = qw at *
    have X1 := Lib.hid (Own.new R1.out.bel #[.bool true, .int .i64 uj, .bool qw] 26)
    have R1b := Lib.hid (R1.out.alloc (.cells #[.bool true, .int .i64 uj, .bool qw] 26))
    have NE : Hid (w1.heap.size ≠ w.heap.size) := (Ne.symm (Nat.ne_of_lt R1.out.lt))
    clear R1 hq A2
    generalize w1.alloc _ = w1b at *
    generalize w1.heap.size = NX at *
    have x1 := X1.out.cell (i := 1) rfl
    have x2 := X1.out.cell (i := 2) rfl
    have g1 := X1.out.fro 1
    have g2 := X1.out.fro 2
    have X2 := Lib.hid ((X1.out.set 1 (.int .i64 ui)).set 2 (.bool uw))
    have R2 := Lib.hid ((R1b.out.setO NE.out X1.out.n 1 (.int .i64 ui)).setO NE.out X1.out.n 2 (.bool uw))
    simp only [List.set_cons_zero, List.set_cons_succ] at X2
    go_upto_region 4 with (go_at_call 19; refine (nx.out _).mono ?_; rintro e w' ⟨rfl, rfl⟩)
    simp only [HB.out]
    clear x1 x2 g1 g2 X1 R1b
    generalize World.setCell _ _ _ = w2 at *
    have e0 := R2.out.cell (i := 0) rfl
    have e1 := R2.out.cell (i := 1) rfl
    have e2 := R2.out.cell (i := 2) rfl
    have f0 := R2.out.fro 0
    have f1 := R2.out.fro 1
    have f2 := R2.out.fro 2
    by_cases h0 : v = 0
    · have hz : ((v : Int) == 0) = true := beq_iff_eq.2 (by omega)
      have R4 := Lib.hid (((R2.out.set 0 (.bool false)).set 1 (.int .i64 0)).set 2 (.bool false))
      have UZ : Hid (unV form v = .tuple #[.agg #[.bool false, .int .i64 0, .bool false], .bool true]) := by show _ = _; rw [h0]; exact U0.out
      clear h0 UY UN U0
      generalize (v : Int) = vi at *
      go_wp2_with fail
      rw [UZ.out]
      exact bodyPost_ret (v := .tuple #[.agg #[.bool false, .int .i64 0, .bool false], .bool true]) (results_ct Try.results8 _ _ w.heap.size [.bool false, .int .i64 0, .bool false] _ rfl R4.out.all Try.underlying26 rfl (by kernel_rfl)) rfl ⟨rfl, R4.out.bel⟩
    · have hz : ((v : Int) == 0) = false := beq_false_of_ne (by omega)
      clear e0 e1 e2 f0 f1 f2
      go_upto_region 6 with (fail)
      go_upto_if 33 with (first
        | ((with_reducible refine load_gate (26) (6) ?_); refine wpList_load_mid rfl 26 (.tmp 6) rfl NX 0 rfl [.bool true, .int .i64 ui, .bool uw] _ X2.out.all Try.underlying26 rfl I3.out ?_)
        | (go_at_call 10; refine (PK.out _).mono ?_; rintro e w3 ⟨rfl, u3⟩; have R3 := Lib.hid (R2.out.step u3); have X3 := Lib.hid (X2.out.step u3); clear u3))
      have e0 := R3.out.cell (i := 0) rfl
      have e1 := R3.out.cell (i := 1) rfl
      have e2 := R3.out.cell (i := 2) rfl
      have f0 := R3.out.fro 0
      have f1 := R3.out.fro 1
      have f2 := R3.out.fro 2
      clear R2 X2
      by_cases hp : packN form true ui uw = v
      · have R4 := Lib.hid (((R3.out.set 0 (.bool true)).set 1 (.int .i64 ui)).set 2 (.bool uw))
        have UZ := Lib.hid (UY.out h0 hp)
        have hne : (((packN form true ui uw : Nat) : Int) != (v : Int)) = false := by rw [hp]; simp
        clear hp UY UN U0 PK PL h0
        generalize ((packN form true ui uw : Nat) : Int) = pk at *
        generalize (v : Int) = vi at *
        go_wp2_with ((with_reducible refine load_gate (26) (6) ?_); refine wpList_load_mid rfl 26 (.tmp 6) rfl NX 0 rfl [.bool true, .int .i64 ui, .bool uw] _ X3.out.all Try.underlying26 rfl I3.out ?_)
        rw [UZ.out]
        exact bodyPost_ret (v := .tuple #[.agg #[.bool true, .int .i64 ui, .bool uw], .bool true]) (results_ct Try.results8 _ _ w.heap.size [.bool true, .int .i64 ui, .bool uw] _ rfl R4.out.all Try.underlying26 rfl (by kernel_rfl)) rfl ⟨rfl, R4.out.bel⟩
      · have R4 := Lib.hid (((R3.out.set 0 (.bool false)).set 1 (.int .i64 0)).set 2 (.bool false))
        have UZ := Lib.hid (UN.out h0 hp)
        have hne : (((packN form true ui uw : Nat) : Int) != (v : Int)) = true := by simp <;> omega
        clear hp UY UN U0 PK PL h0
        generalize ((packN form true ui uw : Nat) : Int) = pk at *
        generalize (v : Int) = vi at *
        go_wp2_with fail
        rw [UZ.out]
        exact bodyPost_ret (v := .tuple #[.agg #[.bool false, .int .i64 0, .bool false], .bool false]) (results_ct Try.results8 _ _ w.heap.size [.bool false, .int .i64 0, .bool false] _ rfl R4.out.all Try.underlying26 rfl (by kernel_rfl)) rfl ⟨rfl, R4.out.bel⟩
end Go.Proofs.Yteenaokcfhlemaa.Walks
