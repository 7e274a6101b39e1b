/- Walks through the functions of the statement, and the statement over them: each contract says what the call answers and that nothing else changes. -/
import Derived.Test.YtiihhpbobebliaaProg


import Derived.Laws.BytesString
import Derived.Test.YtiihhpbobebliaaBits
import Derived.Test.YtiihhpbobebliaaHeap
import Derived.Test.YtiihhpbobebliaaAid
import Derived.Lib.Hide
import Derived.Test.YtiihhpbobebliaaArr
import Derived.Test.YtiihhpbobebliaaEql
import Derived.Test.YtiihhpbobebliaaWalkCa
import Derived.Test.YtiihhpbobebliaaWalkPut
import Derived.WalkKit
import Derived.WalkSpells
import Derived.WalkLawsBesides
import Derived.Deep.QuietTactic
import Derived.BigQuiet
import Derived.Deep.RegionHeld3
import Derived.Deep.DeepCutAuto
import Derived.Deep.CutBlock
import Derived.Lib.SlBytesConst
import Derived.StillTailTactics

import Derived.Deep.RegionLaw
import Derived.Laws.MakeOwn
import Derived.Deep.AppendLies
import Derived.Laws.CopyOwn
import Derived.RegionTactic
namespace Go.Proofs.Ytiihhpbobebliaa.Walks
set_option linter.unusedVariables false
set_option linter.unusedSimpArgs false
open Go.RowKit Go.Proofs.Ytiihhpbobebliaa.Bits Go.Proofs.Ytiihhpbobebliaa.Heap Go.Proofs.Ytiihhpbobebliaa.Aid Go.Proofs.Ytiihhpbobebliaa.Arr Go.Proofs.Ytiihhpbobebliaa.Eql

/-- A cache of the call's own. -/
structure Cc (w : World) (p : Nat) (l : List Ro) (w' : World) : Prop where
  bel : Below w.heap.size w w'
  n : w.heap.size ≤ p
  c : ∃ v, Cv w.heap.size p v l w'
theorem Cc.step {w w1 w2 : World} {p : Nat} {l : List Ro} (h : Cc w p l w1) (hb : Below w1.heap.size w1 w2) : Cc w p l w2 := by
  obtain ⟨v, hc⟩ := h.c
  exact ⟨h.bel.trans (hb.mono h.bel.size), h.n, v, hc.below hb⟩
theorem Cc.keepP {w w1 w2 : World} {p : Nat} {l l' : List Ro} {e : Ending} (h : Cc w p l w1) (k : KeepP w1 p l' e w2) : Cc w p l' w2 := by
  obtain ⟨v', _, hc, hk⟩ := k
  exact ⟨Keep.belowB h.bel hk h.bel.size (fun i hi e => by have := h.n; omega), h.n, v', hc.mono h.bel.size⟩
theorem Cc.new {w w1 : World} (hb : Below w.heap.size w w1) : Cc w w1.heap.size [] (w1.alloc (.cells #[.slice none 0 0] 25)) :=
  ⟨hb.alloc hb.size _, hb.size, _, Blk.new w1 _ _, World.ownsRow_nil _ _ _ _, (fun e => by cases e), by simp⟩
theorem Cc.lt {w w1 : World} {p : Nat} {l : List Ro} (h : Cc w p l w1) : p < w1.heap.size := by
  obtain ⟨v, hc⟩ := h.c
  exact hc.c.lt
theorem putL_ok {l : List Ro} {x : Ro} (hl : ∀ y ∈ l, y.Ok) (hx : x.Ok) : ∀ y ∈ putL l x, y.Ok := by
  intro y hy
  unfold putL at hy
  rw [List.mem_append] at hy
  rcases hy with hy | hy
  · have hd : ∀ y ∈ dropR l x.vm x.pg, y.Ok := fun y hy => hl y (List.mem_filter.1 hy).1
    split at hy
    · exact hd y (List.mem_of_mem_tail hy)
    · exact hd y hy
  · simp only [List.mem_singleton] at hy
    rw [hy]; exact hx
theorem ok_small {a b f : Int} {t g : Bool} (ha : 0 ≤ a ∧ a ≤ 1000) (hb : 0 ≤ b ∧ b ≤ 1000) : Ro.Ok ⟨a, b, t, f, g⟩ :=
  ⟨by simp [Lit.wf, IntKind.min, IntKind.max, IntKind.signed, IntKind.bits]; omega, by simp [Lit.wf, IntKind.min, IntKind.max, IntKind.signed, IntKind.bits]; omega⟩
theorem Cc.put {w w1 : World} {p : Nat} {l : List Ro} (h : Cc w p l w1) (ho : ∀ y ∈ l, y.Ok) (x : Ro) (hx : x.Ok) :
    Calls Try.prog 8 #[.pointer (some ⟨p, 0, none⟩), .int .i64 x.vm, .int .i64 x.pg, .agg #[.bool x.th, .int .i64 x.fr, .bool x.wr]] w1 fun e w' => e = .returned (.tuple #[]) ∧ Cc w p (putL l x) w' := by
  obtain ⟨v, hc⟩ := h.c
  refine (put_calls hc ho x hx).mono ?_
  rintro e w' k
  refine ⟨?_, h.keepP k⟩
  obtain ⟨_, rfl, _⟩ := k
  rfl
theorem Cc.drop {w w1 : World} {p : Nat} {l : List Ro} (h : Cc w p l w1) (ho : ∀ y ∈ l, y.Ok) (vm pg : Int) (hvm : (Lit.int .i64 vm).wf = true) (hpg : (Lit.int .i64 pg).wf = true) :
    Calls Try.prog 10 #[.pointer (some ⟨p, 0, none⟩), .int .i64 vm, .int .i64 pg] w1 fun e w' => e = .returned (.tuple #[]) ∧ Cc w p (dropR l vm pg) w' ∧ ∀ {b : Nat} {cs : List Value} {t : TypeId}, Own w b cs t w1 → b ≠ p → Own w b cs t w' := by
  obtain ⟨v, hc⟩ := h.c
  refine (drop_calls hc ho vm pg hvm hpg).mono ?_
  rintro e w' k
  refine ⟨?_, h.keepP k, fun o hb => ?_⟩
  · obtain ⟨_, rfl, _⟩ := k
    rfl
  · obtain ⟨_, _, _, hk⟩ := k
    exact ⟨Keep.belowB o.bel hk o.bel.size (fun i hi e => by have := h.n; omega), o.n, o.k.keep hk hb⟩
theorem Cc.look {w w1 : World} {p : Nat} {l : List Ro} (h : Cc w p l w1) (ho : ∀ y ∈ l, y.Ok) (vm pg : Int) (hvm : (Lit.int .i64 vm).wf = true) (hpg : (Lit.int .i64 pg).wf = true) {r : Option Ro} (hr : lookL l vm pg = r) :
    Calls Try.prog 9 #[.pointer (some ⟨p, 0, none⟩), .int .i64 vm, .int .i64 pg] w1 fun e w' => e = .returned (lookV r) ∧ Cc w p l w' ∧ Below w1.heap.size w1 w' := by
  obtain ⟨v, hc⟩ := h.c
  refine (look_calls hc ho vm pg hvm hpg).mono ?_
  rintro e w' ⟨rfl, hb⟩
  exact ⟨by rw [hr], h.step hb, hb⟩
theorem Cc.len {w w1 : World} {p : Nat} {l : List Ro} (h : Cc w p l w1) {n : Nat} (hn : l.length = n) :
    Calls Try.prog 12 #[.pointer (some ⟨p, 0, none⟩)] w1 fun e w' => e = .returned (.int .i64 (n : Int)) ∧ w1 = w' := by
  obtain ⟨v, hc⟩ := h.c
  rw [← hn]
  exact len_calls hc
def aw : Nat → List Ro
  | 0 => []
  | i + 1 => putL (aw i) ⟨0, (i : Int), true, (i : Int), false⟩
theorem aw_ok (i : Nat) (hi : i ≤ 9) : ∀ x ∈ aw i, x.Ok := by
  induction i with
  | zero => intro x hx; cases hx
  | succ i ih => exact putL_ok (ih (by omega)) (ok_small (by omega) (by omega))
theorem aw_facts : lookL (aw 9) 0 8 = some ⟨0, 8, true, 8, false⟩ ∧ lookL (aw 9) 0 0 = none ∧ (aw 9).length = 8 := by decide +kernel
set_option maxHeartbeats 2000000 in
theorem awake_calls (w : World) : Calls Try.prog 11 #[] w fun e w' => e = .returned (.bool true) ∧ Below w.heap.size w w' := by
  have HP := Lib.hid (fun (k : Nat) (hk : k < 9) (W : World) (h : Cc w w.heap.size (aw k) W) => h.put (aw_ok k (by omega)) ⟨0, (k : Int), true, (k : Int), false⟩ (ok_small (by omega) (by omega)))
  have HL := Lib.hid (fun (W : World) (h : Cc w w.heap.size (aw 9) W) => h.look (aw_ok 9 (by omega)) 0 8 (by decide) (by decide) aw_facts.1)
  have HL2 := Lib.hid (fun (W : World) (h : Cc w w.heap.size (aw 9) W) => h.look (aw_ok 9 (by omega)) 0 0 (by decide) (by decide) aw_facts.2.1)
  have HN := Lib.hid (fun (W : World) (h : Cc w w.heap.size (aw 9) W) => h.len aw_facts.2.2)
  have AS := Lib.hid (fun k => show putL (aw k) ⟨0, (k : Int), true, (k : Int), false⟩ = aw (k + 1) from rfl)
  have C0 := Lib.hid (Cc.new (Below.refl w.heap.size w))
  rw [show ([] : List Ro) = aw 0 from rfl] at C0
  simp only [AS.out] at HP
  generalize aw = AW at *
  go_enter Try.func11, Try.ntmps11
  go_upto_region 3 with (fail)
  generalize w.alloc _ = w1 at *
  go_loopw [2] (fun i wr => ∃ k : Nat, k ≤ 9 ∧ i = .int .i64 k ∧ Cc w w.heap.size (AW k) wr) (fun i _ => 9 - (intOf i).toNat)
  case atStart => exact ⟨0, by omega, rfl, C0.out⟩
  case round =>
    clear C0
    obtain ⟨k, hk, rfl, o1⟩ := hrel
    have T2 := Lib.hid o1
    clear o1
    by_cases hlt : k < 9
    · have hki : (k : Int) < 9 := by omega
      have hk0 : 0 ≤ (k : Int) := by omega
      have P1 := Lib.hid (HP.out k hlt _ T2.out)
      clear HP HL HL2 HN AS
      go_wp2_with (go_at_call 8; refine P1.out.mono ?_; rintro e w2 ⟨rfl, u2⟩; have U2 := Lib.hid u2; clear u2)
      go_roundw
      case rel => exact ⟨k + 1, by omega, by go_num, U2.out⟩
      case measure => simp [intOf]; omega
    · obtain rfl : k = 9 := by omega
      clear HP AS
      go_upto_region 7 with (go_at_call 9; refine (HL.out _ T2.out).mono ?_; rintro e w2 ⟨rfl, u2, _⟩; have U2 := Lib.hid u2; clear u2; dsimp only [lookV])
      have X3 := Lib.hid (Own.new U2.out.bel #[.bool true, .int .i64 8, .bool false] 28)
      have U3 := Lib.hid (U2.out.step ((Below.refl _ _).alloc (Nat.le_refl _) (.cells #[.bool true, .int .i64 8, .bool false] 28)))
      clear T2 U2 HL
      generalize w2.alloc _ = w3 at *
      generalize w2.heap.size = N2 at *
      go_upto_region 8 with (go_at_call 9; refine (HL2.out _ U3.out).mono ?_; rintro e w4 ⟨rfl, u4, b4⟩; have U4 := Lib.hid u4; have X4 := Lib.hid (X3.out.step b4); clear u4 b4; dsimp only [lookV])
      have X5 := Lib.hid (X4.out.alloc (.cells #[.bool false, .int .i64 0, .bool false] 28))
      have U5 := Lib.hid (U4.out.step ((Below.refl _ _).alloc (Nat.le_refl _) (.cells #[.bool false, .int .i64 0, .bool false] 28)))
      clear X3 U3 X4 U4 HL2
      generalize w4.alloc _ = w5 at *
      have c1 := X5.out.cell (i := 1) rfl
      go_wp2_with (go_at_call 12; refine (HN.out _ U5.out).mono ?_; rintro e w6 ⟨rfl, rfl⟩)
      go_ret
      exact ⟨rfl, U5.out.bel⟩
set_option maxHeartbeats 2000000 in
theorem cacheNil_walk (vm pg fr : Int) (w : World) (w0 : (Lit.int .i64 vm).wf = true) (w1 : (Lit.int .i64 pg).wf = true) (w2 : (Lit.int .i64 fr).wf = true) : Calls Try.prog 7 #[.int .i64 vm, .int .i64 pg, .int .i64 fr] w fun e w' => e = .returned (.bool true) ∧ Below w.heap.size w w' := by
  go_enter Try.func7, Try.ntmps7
  go_upto_region 7 with (first
    | (go_at_call 8; refine (put_nil _ _ _ _ _ _).mono ?_; rintro e w1 ⟨rfl, u1⟩; have U1 := Lib.hid u1; clear u1)
    | (go_at_call 10; refine (drop_nil _ _ _).mono ?_; rintro e w2 ⟨rfl, u2⟩; have U2 := Lib.hid (U1.out.trans (u2.mono U1.out.size)); clear u2)
    | (go_at_call 13; refine (dropVM_nil _ _).mono ?_; rintro e w3 ⟨rfl, u3⟩; have U3 := Lib.hid (U2.out.trans (u3.mono U2.out.size)); clear u3)
    | (go_at_call 14; refine (clear_nil _).mono ?_; rintro e w4 ⟨rfl, rfl⟩)
    | (go_at_call 9; refine (look_nil _ _ _).mono ?_; rintro e w5 ⟨rfl, u5⟩; have U5 := Lib.hid (U3.out.trans (u5.mono U3.out.size)); clear u5))
  have U6 := Lib.hid (U5.out.alloc U5.out.size (.cells #[.bool false, .int .i64 0, .bool false] 28))
  generalize World.alloc _ _ = w6 at *
  go_wp2_with (first
    | (go_at_call 11; refine (awake_calls _).mono ?_; rintro e w7 ⟨rfl, u7⟩; have U7 := Lib.hid (U6.out.trans (u7.mono U6.out.size)); clear u7)
    | (go_at_call 12; refine (len_nil _).mono ?_; rintro e w8 ⟨rfl, rfl⟩))
  go_ret
  exact ⟨rfl, U7.out⟩
theorem look_one (a b c d : Int) (f : Int) : lookL [⟨a, b, true, f, false⟩] c d = if a = c ∧ b = d then some ⟨a, b, true, f, false⟩ else none := by
  unfold lookL Ro.is
  by_cases h1 : a = c <;> by_cases h2 : b = d <;> simp [h1, h2]
theorem drop_one (a b c d : Int) (f : Int) : dropR [⟨a, b, true, f, false⟩] c d = if a = c ∧ b = d then [] else [⟨a, b, true, f, false⟩] := by
  unfold dropR Ro.is
  by_cases h1 : a = c <;> by_cases h2 : b = d <;> simp [h1, h2]
theorem ok_one {x : Ro} (h : x.Ok) : ∀ y ∈ [x], y.Ok := by
  intro y hy
  rw [List.mem_singleton] at hy
  rw [hy]; exact h
set_option maxHeartbeats 4000000 in
theorem cacheNumbers_walk (a b c d f : Int) (w : World) (wa : (Lit.int .i64 a).wf = true) (wb : (Lit.int .i64 b).wf = true) (wc : (Lit.int .i64 c).wf = true) (wd : (Lit.int .i64 d).wf = true) (wf : (Lit.int .i64 f).wf = true) :
    Calls Try.prog 3 #[.int .i64 a, .int .i64 b, .int .i64 c, .int .i64 d, .int .i64 f] w fun e w' => e = .returned (.bool true) ∧ Below w.heap.size w w' := by
  have hx : Ro.Ok ⟨a, b, true, f, false⟩ := ⟨wa, wb⟩
  have HP := Lib.hid (fun (W : World) (h : Cc w w.heap.size [] W) => h.put (fun y hy => by cases hy) ⟨a, b, true, f, false⟩ hx)
  rw [show putL [] ⟨a, b, true, f, false⟩ = [⟨a, b, true, f, false⟩] from rfl] at HP
  have HL := Lib.hid (fun (W : World) (h : Cc w w.heap.size [⟨a, b, true, f, false⟩] W) => h.look (ok_one hx) c d wc wd (look_one a b c d f))
  have HD := Lib.hid (fun (W : World) (h : Cc w w.heap.size [⟨a, b, true, f, false⟩] W) => h.drop (ok_one hx) c d wc wd)
  rw [drop_one] at HD
  have C0 := Lib.hid (Cc.new (Below.refl w.heap.size w))
  clear wa wb wc wd wf hx
  have ret_bool : ∀ {a b : Bool}, a = b → Ending.returned (.bool a) = .returned (.bool b) := fun h => by rw [h]
  rcases Decidable.em (a = c) with h1 | h1
  · subst h1
    rcases Decidable.em (b = d) with h2 | h2
    · subst h2
      rw [if_pos ⟨rfl, rfl⟩] at HL HD
      have HN := Lib.hid (fun (W : World) (h : Cc w w.heap.size [] W) => h.len (n := 0) rfl)
      generalize hL : [(⟨a, b, true, f, false⟩ : Ro)] = L at *
      clear hL
      generalize hL2 : ([] : List Ro) = L2 at *
      clear hL2
      go_enter Try.func3, Try.ntmps3
      go_upto_region 2 with (fail)
      generalize w.alloc _ = w1 at *
      go_upto_region 4 with (first
        | (go_at_call 8; refine (HP.out _ C0.out).mono ?_; rintro e w2 ⟨rfl, u2⟩; have U2 := Lib.hid u2; clear u2)
        | (go_at_call 9; refine (HL.out _ U2.out).mono ?_; rintro e w3 ⟨rfl, u3, _⟩; have U3 := Lib.hid u3; clear u3; dsimp only [lookV]))
      have X4 := Lib.hid (Own.new U3.out.bel #[.bool true, .int .i64 f, .bool false] 28)
      have U4 := Lib.hid (U3.out.step ((Below.refl _ _).alloc (Nat.le_refl _) (.cells #[.bool true, .int .i64 f, .bool false] 28)))
      have NE := Lib.hid (Ne.symm (Nat.ne_of_lt U3.out.lt))
      clear C0 HP HL U2 U3
      generalize World.alloc _ _ = w4 at *
      generalize w3.heap.size = N3 at *
      go_upto_region 6 with (go_at_call 10; refine (HD.out _ U4.out).mono ?_; rintro e w5 ⟨rfl, u5, x5⟩; have U5 := Lib.hid u5; have X5 := Lib.hid (x5 X4.out NE.out); clear u5 x5)
      clear HD U4 X4
      have HX := Lib.hid (fun W (h : Below w5.heap.size w5 W) => (X5.out.step h).cell (i := 1) rfl)
      go_wp2_with (first
        | (go_at_call 11; refine (awake_calls _).mono ?_; rintro e w7 ⟨rfl, u7⟩; have U7 := Lib.hid (U5.out.step u7); have c1 := HX.out _ u7; clear u7)
        | (go_at_call 12; refine (HN.out _ U7.out).mono ?_; rintro e w8 ⟨rfl, rfl⟩))
      all_goals
        go_ret
        first | exact ⟨rfl, U7.out.bel⟩ | exact ⟨ret_bool (by simp; omega), U7.out.bel⟩
    · have h3 : (b == d) = false := beq_false_of_ne h2
      rw [if_neg (fun h => h2 h.2)] at HL HD
      have HN := Lib.hid (fun (W : World) (h : Cc w w.heap.size [(⟨a, b, true, f, false⟩ : Ro)] W) => h.len (n := 1) rfl)
      generalize hL : [(⟨a, b, true, f, false⟩ : Ro)] = L at *
      clear hL
      generalize hL2 : [(⟨a, b, true, f, false⟩ : Ro)] = L2 at *
      clear hL2
      go_enter Try.func3, Try.ntmps3
      go_upto_region 2 with (fail)
      generalize w.alloc _ = w1 at *
      go_upto_region 4 with (first
        | (go_at_call 8; refine (HP.out _ C0.out).mono ?_; rintro e w2 ⟨rfl, u2⟩; have U2 := Lib.hid u2; clear u2)
        | (go_at_call 9; refine (HL.out _ U2.out).mono ?_; rintro e w3 ⟨rfl, u3, _⟩; have U3 := Lib.hid u3; clear u3; dsimp only [lookV]))
      have X4 := Lib.hid (Own.new U3.out.bel #[.bool false, .int .i64 0, .bool false] 28)
      have U4 := Lib.hid (U3.out.step ((Below.refl _ _).alloc (Nat.le_refl _) (.cells #[.bool false, .int .i64 0, .bool false] 28)))
      have NE := Lib.hid (Ne.symm (Nat.ne_of_lt U3.out.lt))
      clear C0 HP HL U2 U3
      generalize World.alloc _ _ = w4 at *
      generalize w3.heap.size = N3 at *
      go_upto_region 6 with (go_at_call 10; refine (HD.out _ U4.out).mono ?_; rintro e w5 ⟨rfl, u5, x5⟩; have U5 := Lib.hid u5; have X5 := Lib.hid (x5 X4.out NE.out); clear u5 x5)
      clear HD U4 X4
      have HX := Lib.hid (fun W (h : Below w5.heap.size w5 W) => (X5.out.step h).cell (i := 1) rfl)
      go_wp2_with (first
        | (go_at_call 11; refine (awake_calls _).mono ?_; rintro e w7 ⟨rfl, u7⟩; have U7 := Lib.hid (U5.out.step u7); have c1 := HX.out _ u7; clear u7)
        | (go_at_call 12; refine (HN.out _ U7.out).mono ?_; rintro e w8 ⟨rfl, rfl⟩))
      all_goals
        go_ret
        first | exact ⟨rfl, U7.out.bel⟩ | exact ⟨ret_bool (by simp; omega), U7.out.bel⟩
  · have h3 : (a == c) = false := beq_false_of_ne h1
    rw [if_neg (fun h => h1 h.1)] at HL HD
    have HN := Lib.hid (fun (W : World) (h : Cc w w.heap.size [(⟨a, b, true, f, false⟩ : Ro)] W) => h.len (n := 1) rfl)
    generalize hL : [(⟨a, b, true, f, false⟩ : Ro)] = L at *
    clear hL
    generalize hL2 : [(⟨a, b, true, f, false⟩ : Ro)] = L2 at *
    clear hL2
    go_enter Try.func3, Try.ntmps3
    go_upto_region 2 with (fail)
    generalize w.alloc _ = w1 at *
    go_upto_region 4 with (first
      | (go_at_call 8; refine (HP.out _ C0.out).mono ?_; rintro e w2 ⟨rfl, u2⟩; have U2 := Lib.hid u2; clear u2)
      | (go_at_call 9; refine (HL.out _ U2.out).mono ?_; rintro e w3 ⟨rfl, u3, _⟩; have U3 := Lib.hid u3; clear u3; dsimp only [lookV]))
    have X4 := Lib.hid (Own.new U3.out.bel #[.bool false, .int .i64 0, .bool false] 28)
    have U4 := Lib.hid (U3.out.step ((Below.refl _ _).alloc (Nat.le_refl _) (.cells #[.bool false, .int .i64 0, .bool false] 28)))
    have NE := Lib.hid (Ne.symm (Nat.ne_of_lt U3.out.lt))
    clear C0 HP HL U2 U3
    generalize World.alloc _ _ = w4 at *
    generalize w3.heap.size = N3 at *
    go_upto_region 6 with (go_at_call 10; refine (HD.out _ U4.out).mono ?_; rintro e w5 ⟨rfl, u5, x5⟩; have U5 := Lib.hid u5; have X5 := Lib.hid (x5 X4.out NE.out); clear u5 x5)
    clear HD U4 X4
    have HX := Lib.hid (fun W (h : Below w5.heap.size w5 W) => (X5.out.step h).cell (i := 1) rfl)
    go_wp2_with (first
      | (go_at_call 11; refine (awake_calls _).mono ?_; rintro e w7 ⟨rfl, u7⟩; have U7 := Lib.hid (U5.out.step u7); have c1 := HX.out _ u7; clear u7)
      | (go_at_call 12; refine (HN.out _ U7.out).mono ?_; rintro e w8 ⟨rfl, rfl⟩))
    all_goals
      go_ret
      first | exact ⟨rfl, U7.out.bel⟩ | exact ⟨ret_bool (by simp; omega), U7.out.bel⟩
def pe : Nat → List Ro
  | 0 => []
  | i + 1 => putL (pe i) ⟨((i % 3 : Nat) : Int), (i : Int), true, (i : Int), false⟩
theorem pe_ok (i : Nat) (hi : i ≤ 30) : ∀ x ∈ pe i, x.Ok := by
  induction i with
  | zero => intro x hx; cases hx
  | succ i ih => exact putL_ok (ih (by omega)) (ok_small (by omega) (by omega))
def peR (k i : Nat) : Option Ro := if k ≤ i + 8 then some ⟨((i % 3 : Nat) : Int), (i : Int), true, (i : Int), false⟩ else none
theorem pe_look (k i : Nat) (hk : k < 30) (hi : i < k) : lookL (pe k) ((i % 3 : Nat) : Int) (i : Int) = peR k i := by
  have h : ∀ k : Fin 30, ∀ i : Fin 30, i.1 < k.1 → lookL (pe k.1) ((i.1 % 3 : Nat) : Int) (i.1 : Int) = peR k.1 i.1 := by decide +kernel
  exact h ⟨k, hk⟩ ⟨i, by omega⟩ hi
theorem pe_len (k : Nat) (hk : k < 30) : (pe k).length = min k 8 := by
  have h : ∀ k : Fin 30, (pe k.1).length = min k.1 8 := by decide +kernel
  exact h ⟨k, hk⟩
theorem peR_cases (k i : Nat) : (k ≤ i + 8 ∧ peR k i = some ⟨((i % 3 : Nat) : Int), (i : Int), true, (i : Int), false⟩) ∨ (i + 8 < k ∧ peR k i = none) := by
  unfold peR
  by_cases h : k ≤ i + 8
  · exact .inl ⟨h, if_pos h⟩
  · exact .inr ⟨by omega, if_neg h⟩
theorem wf_u8 {a : Int} (h : (Lit.int .u8 a).wf = true) : ∃ n : Nat, a = (n : Int) ∧ n < 256 := Bits.wf_u8 h
set_option maxHeartbeats 4000000 in
theorem cacheEldest_walk (n look : Int) (w : World) (wn : (Lit.int .u8 n).wf = true) (wl : (Lit.int .u8 look).wf = true) :
    Calls Try.prog 4 #[.int .u8 n, .int .u8 look] w fun e w' => e = .returned (.bool true) ∧ Below w.heap.size w w' := by
  have ret_bool : ∀ {a b : Bool}, a = b → Ending.returned (.bool a) = .returned (.bool b) := fun h => by rw [h]
  obtain ⟨n, rfl, hn⟩ := wf_u8 wn
  obtain ⟨lk, rfl, hl⟩ := wf_u8 wl
  obtain ⟨K, hK⟩ : ∃ K, n % 30 = K := ⟨_, rfl⟩
  have hKI : (n : Int) % 30 = (K : Int) := by omega
  have hK30 : K < 30 := by omega
  have hl3 : 0 ≤ (lk : Int) % 3 ∧ (lk : Int) % 3 < 3 := by omega
  have hl30 : 0 ≤ (lk : Int) % 30 ∧ (lk : Int) % 30 < 30 := by omega
  have hn0 : 0 ≤ (n : Int) := by omega
  have hl0 : 0 ≤ (lk : Int) := by omega
  have hwf : ∀ x : Int, 0 ≤ x ∧ x ≤ 1000 → (Lit.int .i64 x).wf = true := fun x hx => by simp [Lit.wf, IntKind.min, IntKind.max, IntKind.signed, IntKind.bits]; omega
  have WL := Lib.hid (And.intro (hwf ((lk : Int) % 3) (by omega)) (hwf ((lk : Int) % 30) (by omega)))
  clear wn wl hn hl hK
  obtain ⟨l3, e3⟩ : ∃ x, (lk : Int) % 3 = x := ⟨_, rfl⟩
  obtain ⟨l30, e30⟩ : ∃ x, (lk : Int) % 30 = x := ⟨_, rfl⟩
  rw [e3, e30] at WL
  rw [e3] at hl3
  rw [e30] at hl30
  generalize (lk : Int) = lki at *
  generalize (n : Int) = ni at *
  have HP := Lib.hid (fun (k : Nat) (hk : k < 30) (W : World) (p : Nat) (h : Cc w p (pe k) W) => h.put (pe_ok k (by omega)) ⟨((k % 3 : Nat) : Int), (k : Int), true, (k : Int), false⟩ (ok_small (by omega) (by omega)))
  have AS := Lib.hid (fun k => show putL (pe k) ⟨((k % 3 : Nat) : Int), (k : Int), true, (k : Int), false⟩ = pe (k + 1) from rfl)
  simp only [AS.out] at HP
  have HL := Lib.hid (fun (k : Nat) (hk : k ≤ 30) (W : World) (p : Nat) (h : Cc w p (pe k) W) => h.look (pe_ok k hk) l3 l30 WL.out.1 WL.out.2 rfl)
  have HV := Lib.hid (fun (i : Nat) (hi : i < K) (W : World) (p : Nat) (h : Cc w p (pe K) W) => h.look (pe_ok K (by omega)) ((i % 3 : Nat) : Int) (i : Int) (hwf _ (by omega)) (hwf _ (by omega)) (pe_look K i hK30 hi))
  have HN := Lib.hid (fun (W : World) (p : Nat) (h : Cc w p (pe K) W) => h.len (pe_len K hK30))
  have HR := Lib.hid (fun i => peR_cases K i)
  have C0 := Lib.hid (fun (W : World) (hb : Below w.heap.size w W) => Cc.new hb)
  rw [show ([] : List Ro) = pe 0 from rfl] at C0
  generalize peR = PR at *
  generalize pe = PE at *
  clear hwf AS WL
  go_enter Try.func4, Try.ntmps4
  go_upto_region 4 with (go_at_call 11; refine (awake_calls _).mono ?_; rintro e w1 ⟨rfl, u1⟩; have U1 := Lib.hid u1; clear u1)
  have C1 := Lib.hid (C0.out _ U1.out)
  clear C0 U1
  generalize w1.alloc _ = w2 at *
  generalize w1.heap.size = p at *
  go_upto_region 6 with (fail)
  simp only [hKI]
  clear hKI hn0
  go_loopw [7] (fun i wr => ∃ k : Nat, k ≤ K ∧ i = .int .i64 k ∧ Cc w p (PE k) wr) (fun i _ => K - (intOf i).toNat)
  case atStart => exact ⟨0, by omega, rfl, C1.out⟩
  case round =>
    clear C1
    obtain ⟨k, hk, rfl, o1⟩ := hrel
    have T2 := Lib.hid o1
    clear o1
    by_cases hlt : k < K
    · have hki : (k : Int) < (K : Int) := by omega
      have hk0 : 0 ≤ (k : Int) := by omega
      have P1 := Lib.hid (HP.out k (by omega) _ _ T2.out)
      have hm : ((k % 3 : Nat) : Int) = (k : Int) % 3 := by omega
      rw [hm] at P1
      have L1 := Lib.hid (fun W => HL.out (k + 1) (by omega) W p)
      clear HP HL HV HN HR hm
      go_wp2_with (first
        | (go_at_call 8; refine P1.out.mono ?_; rintro e w3 ⟨rfl, u3⟩; have U3 := Lib.hid u3; clear u3)
        | (go_at_call 9; refine (L1.out _ U3.out).mono ?_; rintro e w4 ⟨rfl, u4, _⟩; have U4 := Lib.hid u4; clear u4))
      go_roundw
      case rel => exact ⟨k + 1, by omega, by go_num, U4.out⟩
      case measure => simp [intOf]; omega
    · obtain rfl : k = K := by omega
      clear HP HL
      go_upto_region 11 with (fail)
      go_loopw [8] (fun i wr => ∃ j : Nat, j ≤ k ∧ i = .int .i64 j ∧ Cc w p (PE k) wr) (fun i _ => k - (intOf i).toNat)
      case atStart => exact ⟨0, by omega, rfl, T2.out⟩
      case round =>
        clear T2
        obtain ⟨j, hj, rfl, o1⟩ := hrel
        have T2 := Lib.hid o1
        clear o1
        by_cases hlt : j < k
        · have hki : (j : Int) < (k : Int) := by omega
          have hk0 : 0 ≤ (j : Int) := by omega
          have hm : ((j % 3 : Nat) : Int) = (j : Int) % 3 := by omega
          have V1 := Lib.hid (HV.out j hlt _ _ T2.out)
          rcases HR.out j with ⟨hge, hr⟩ | ⟨hge, hr⟩
          · rw [hr, hm] at V1
            clear HV HN HR hm hr
            have hg : (k : Int) - 8 ≤ (j : Int) := by omega
            have X := Lib.hid (fun W (u : Cc w p (PE k) W) => Own.new u.bel #[.bool true, .int .i64 (j : Int), .bool false] 28)
            have C := Lib.hid (fun W (u : Cc w p (PE k) W) => u.step ((Below.refl _ _).alloc (Nat.le_refl _) (.cells #[.bool true, .int .i64 (j : Int), .bool false] 28)))
            go_upto_region 14 with (go_at_call 9; refine V1.out.mono ?_; rintro e w4 ⟨rfl, u4, _⟩; have X4 := Lib.hid (X.out _ u4); have U4 := Lib.hid (C.out _ u4); clear u4 X C; dsimp only [lookV])
            generalize w4.alloc _ = w5 at *
            have c1 := X4.out.cell (i := 1) rfl
            go_wp2_with fail
            go_roundw
            case rel => exact ⟨j + 1, by omega, by go_num, U4.out⟩
            case measure => simp [intOf]; omega
          · rw [hr, hm] at V1
            clear HV HN HR hm hr
            have hg : ¬ (k : Int) - 8 ≤ (j : Int) := by omega
            have C := Lib.hid (fun W (u : Cc w p (PE k) W) => u.step ((Below.refl _ _).alloc (Nat.le_refl _) (.cells #[.bool false, .int .i64 0, .bool false] 28)))
            go_upto_region 14 with (go_at_call 9; refine V1.out.mono ?_; rintro e w4 ⟨rfl, u4, _⟩; have U4 := Lib.hid (C.out _ u4); clear u4 C; dsimp only [lookV])
            generalize w4.alloc _ = w5 at *
            go_wp2_with fail
            go_roundw
            case rel => exact ⟨j + 1, by omega, by go_num, U4.out⟩
            case measure => simp [intOf]; omega
        · obtain rfl : j = k := by omega
          have N1 := Lib.hid (HN.out _ _ T2.out)
          clear HV HN HR
          go_wp2_with (go_at_call 12; refine N1.out.mono ?_; rintro e w6 ⟨rfl, rfl⟩)
          all_goals
            go_ret
            exact ⟨ret_bool (by simp; omega), T2.out.bel⟩
/-- A page put anew: eight of VM 0, one of them again, seven of VM 1. -/
def anA (f : Int) : Nat → List Ro
  | 0 => []
  | i + 1 => putL (anA f i) ⟨0, (i : Int), true, f, false⟩
def anP (f g : Int) (p : Nat) : List Ro := putL (anA f 8) ⟨0, (p : Int), true, g, true⟩
def anB (f g : Int) (p : Nat) : Nat → List Ro
  | 0 => anP f g p
  | i + 1 => putL (anB f g p i) ⟨1, (i : Int), true, f, false⟩
theorem anA_ok (f : Int) (i : Nat) (hi : i ≤ 8) : ∀ x ∈ anA f i, x.Ok := by
  induction i with
  | zero => intro x hx; cases hx
  | succ i ih => exact putL_ok (ih (by omega)) (ok_small (by omega) (by omega))
theorem anB_ok (f g : Int) (p : Nat) (hp : p < 8) (i : Nat) (hi : i ≤ 7) : ∀ x ∈ anB f g p i, x.Ok := by
  induction i with
  | zero => exact putL_ok (anA_ok f 8 (by omega)) (ok_small (by omega) (by omega))
  | succ i ih => exact putL_ok (ih (by omega)) (ok_small (by omega) (by omega))
theorem anB_facts (f g : Int) (p : Nat) (hp : p < 8) : lookL (anB f g p 7) 0 (p : Int) = some ⟨0, (p : Int), true, g, true⟩ ∧ (anB f g p 7).length = 8 := by
  rcases (by omega : p = 0 ∨ p = 1 ∨ p = 2 ∨ p = 3 ∨ p = 4 ∨ p = 5 ∨ p = 6 ∨ p = 7) with rfl | rfl | rfl | rfl | rfl | rfl | rfl | rfl <;> exact ⟨by kernel_rfl, by kernel_rfl⟩
def entSh : Sh := .seq .bool (.seq (.int .i64) (.seq .bool .nil))
theorem fits_ent {a c : Bool} {b : Int} (hb : (Lit.int .i64 b).wf = true) (w : World) : Fits w entSh [.bool a, .int .i64 b, .bool c] :=
  ⟨[_], _, rfl, ⟨_, rfl⟩, [_], _, rfl, ⟨_, rfl, hb⟩, [_], _, rfl, ⟨_, rfl⟩, rfl⟩
theorem eql_ent {a c : Bool} {b : Int} (hb : (Lit.int .i64 b).wf = true) (W : World) :
    (binOp .eql 28 (.agg #[.bool a, .int .i64 b, .bool c]) (.agg #[.bool a, .int .i64 b, .bool c])).run Try.prog W = .ok (.bool true) W :=
  (eql_same (P := Try.prog) (w := W) (w0 := W) (n := 3) (t := 28) (s := entSh) (by kernel_rfl) (by omega) (by kernel_rfl) (fits_ent hb W)).1
set_option maxHeartbeats 4000000 in
theorem cacheAnew_walk (page f g : Int) (w : World) (wp : (Lit.int .u8 page).wf = true) (wf : (Lit.int .i64 f).wf = true) (wg : (Lit.int .i64 g).wf = true) :
    Calls Try.prog 5 #[.int .u8 page, .int .i64 f, .int .i64 g] w fun e w' => e = .returned (.bool true) ∧ Below w.heap.size w w' := by
  obtain ⟨n, rfl, hn⟩ := wf_u8 wp
  obtain ⟨P, hP⟩ : ∃ P, n % 8 = P := ⟨_, rfl⟩
  have hPI : (n : Int) % 8 = (P : Int) := by omega
  have hP8 : P < 8 := by omega
  have hn0 : 0 ≤ (n : Int) := by omega
  have hwf : ∀ x : Int, 0 ≤ x ∧ x ≤ 1000 → (Lit.int .i64 x).wf = true := fun x hx => by simp [Lit.wf, IntKind.min, IntKind.max, IntKind.signed, IntKind.bits]; omega
  have hA := Lib.hid (fun (k : Nat) (hk : k < 8) (W : World) (p : Nat) (h : Cc w p (anA f k) W) => h.put (anA_ok f k (by omega)) ⟨0, (k : Int), true, f, false⟩ (ok_small (by omega) (by omega)))
  have hA2 := Lib.hid (fun k => show putL (anA f k) ⟨0, (k : Int), true, f, false⟩ = anA f (k + 1) from rfl)
  simp only [hA2.out] at hA
  have hM := Lib.hid (fun (W : World) (p : Nat) (h : Cc w p (anA f 8) W) => h.put (anA_ok f 8 (by omega)) ⟨0, (P : Int), true, g, true⟩ (ok_small (by omega) (by omega)))
  have hM2 := Lib.hid (show putL (anA f 8) ⟨0, (P : Int), true, g, true⟩ = anB f g P 0 from rfl)
  simp only [hM2.out] at hM
  have hB := Lib.hid (fun (k : Nat) (hk : k < 7) (W : World) (p : Nat) (h : Cc w p (anB f g P k) W) => h.put (anB_ok f g P hP8 k (by omega)) ⟨1, (k : Int), true, f, false⟩ (ok_small (by omega) (by omega)))
  have hB2 := Lib.hid (fun k => show putL (anB f g P k) ⟨1, (k : Int), true, f, false⟩ = anB f g P (k + 1) from rfl)
  simp only [hB2.out] at hB
  have HL := Lib.hid (fun (W : World) (p : Nat) (h : Cc w p (anB f g P 7) W) => h.look (anB_ok f g P hP8 7 (by omega)) 0 (P : Int) (by decide) (hwf _ (by omega)) (anB_facts f g P hP8).1)
  have HN := Lib.hid (fun (W : World) (p : Nat) (h : Cc w p (anB f g P 7) W) => h.len (anB_facts f g P hP8).2)
  have HE := fun W => eql_ent (a := true) (c := true) wg W
  have C0 := Lib.hid (fun (W : World) (hb : Below w.heap.size w W) => Cc.new hb)
  rw [show ([] : List Ro) = anA f 0 from rfl] at C0
  generalize anA f = PA at *
  generalize anB f g P = PB at *
  clear hA2 hM2 hB2 hwf wp wf wg hP hn
  generalize (n : Int) = ni at *
  have I3 := Lib.hid (show (Try.prog.info? 28).map (·.size) = some 3 by kernel_rfl)
  go_enter Try.func5, Try.ntmps5
  go_upto_region 4 with (go_at_call 11; refine (awake_calls _).mono ?_; rintro e w1 ⟨rfl, u1⟩; have U1 := Lib.hid u1; clear u1)
  have C1 := Lib.hid (C0.out _ U1.out)
  clear C0 U1
  generalize w1.alloc _ = w2 at *
  generalize w1.heap.size = p at *
  go_upto_region 6 with (fail)
  simp only [hPI]
  clear hPI hn0
  go_loopw [9] (fun i wr => ∃ k : Nat, k ≤ 8 ∧ i = .int .i64 k ∧ Cc w p (PA k) wr) (fun i _ => 8 - (intOf i).toNat)
  case atStart => exact ⟨0, by omega, rfl, C1.out⟩
  case round =>
    clear C1
    obtain ⟨k, hk, rfl, o1⟩ := hrel
    have T2 := Lib.hid o1
    clear o1
    by_cases hlt : k < 8
    · have hki : (k : Int) < 8 := by omega
      have hk0 : 0 ≤ (k : Int) := by omega
      have P1 := Lib.hid (hA.out k (by omega) _ _ T2.out)
      clear hA hM hB HL HN HE
      go_wp2_with (go_at_call 8; refine P1.out.mono ?_; rintro e w3 ⟨rfl, u3⟩; have U3 := Lib.hid u3; clear u3)
      go_roundw
      case rel => exact ⟨k + 1, by omega, by go_num, U3.out⟩
      case measure => simp [intOf]; omega
    · obtain rfl : k = 8 := by omega
      have P1 := Lib.hid (hM.out _ _ T2.out)
      clear hA hM
      go_upto_region 11 with (go_at_call 8; refine P1.out.mono ?_; rintro e w3 ⟨rfl, u3⟩; have U3 := Lib.hid u3; clear u3)
      clear T2 P1
      go_loopw [10] (fun i wr => ∃ j : Nat, j ≤ 7 ∧ i = .int .i64 j ∧ Cc w p (PB j) wr) (fun i _ => 7 - (intOf i).toNat)
      case atStart => exact ⟨0, by omega, rfl, U3.out⟩
      case round =>
        clear U3
        obtain ⟨j, hj, rfl, o1⟩ := hrel
        have T2 := Lib.hid o1
        clear o1
        by_cases hlt : j < 7
        · have hki : (j : Int) < 7 := by omega
          have hk0 : 0 ≤ (j : Int) := by omega
          have P1 := Lib.hid (hB.out j (by omega) _ _ T2.out)
          clear hB HL HN HE
          go_wp2_with (go_at_call 8; refine P1.out.mono ?_; rintro e w4 ⟨rfl, u4⟩; have U4 := Lib.hid u4; clear u4)
          go_roundw
          case rel => exact ⟨j + 1, by omega, by go_num, U4.out⟩
          case measure => simp [intOf]; omega
        · obtain rfl : j = 7 := by omega
          have L1 := Lib.hid (HL.out _ _ T2.out)
          clear hB HL
          go_upto_region 15 with (go_at_call 9; refine L1.out.mono ?_; rintro e w4 ⟨rfl, u4, _⟩; have U4 := Lib.hid u4; clear u4; dsimp only [lookV])
          have X5 := Lib.hid (Own.new U4.out.bel #[.bool true, .int .i64 g, .bool true] 28)
          have U5 := Lib.hid (U4.out.step ((Below.refl _ _).alloc (Nat.le_refl _) (.cells #[.bool true, .int .i64 g, .bool true] 28)))
          clear U4 L1 T2
          generalize w4.alloc _ = w5 at *
          generalize w4.heap.size = N4 at *
          have N1 := Lib.hid (HN.out _ _ U5.out)
          clear HN
          go_wp2_with (first
            | ((with_reducible refine load_gate (28) (11) ?_); refine wpList_load_w (by rfl) 28 (.tmp 11) rfl N4 0 rfl [.bool true, .int .i64 g, .bool true] _ X5.out.all Try.underlying28 rfl I3.out ?_)
            | (go_at_call 12; refine N1.out.mono ?_; rintro e w6 ⟨rfl, rfl⟩))
          go_ret
          exact ⟨rfl, U5.out.bel⟩
end Go.Proofs.Ytiihhpbobebliaa.Walks
