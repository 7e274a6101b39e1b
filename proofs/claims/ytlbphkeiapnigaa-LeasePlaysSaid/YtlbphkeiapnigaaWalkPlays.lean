/- Walks through the functions of the statement, and the statement over them: each contract says what the call answers and that nothing else changes. -/
import Derived.Test.YtlbphkeiapnigaaProg
import Derived.Test.YtlbphkeiapnigaaBits
import Derived.Test.YtlbphkeiapnigaaHeap
import Derived.Test.YtlbphkeiapnigaaAid
import Derived.Lib.Hide
import Derived.Test.YtlbphkeiapnigaaArr
import Derived.Test.YtlbphkeiapnigaaEql
import Derived.Test.YtlbphkeiapnigaaWalkLe
import Derived.WalkKit
import Derived.WalkSpells
import Derived.WalkLawsBesides
import Derived.Deep.QuietTactic
import Derived.BigQuiet
import Derived.Deep.RegionHeld3
import Derived.Deep.DeepCutAuto
import Derived.Deep.CutBlock
import Derived.Lib.SlBytesConst
import Derived.StillTailTactics
import Derived.IntWalk
import Derived.Great.Walk
namespace Go.Proofs.Ytlbphkeiapnigaa.Walks
set_option linter.unusedVariables false
set_option linter.unusedSimpArgs false
open Go.RowKit Go.Proofs.Ytlbphkeiapnigaa.Bits Go.Proofs.Ytlbphkeiapnigaa.Heap Go.Proofs.Ytlbphkeiapnigaa.Aid Go.Proofs.Ytlbphkeiapnigaa.Arr Go.Proofs.Ytlbphkeiapnigaa.Eql

/-- The post of a panic does not hang on the frame: said once. -/
theorem quiet_post {P : Program} {md : Region.Mode} {ops : Array Oper} {Q : Exit → Act → World → Prop} {S : World → Prop} {f : Nat} {l : Array Bool} {a : Act} {w : World}
    (h0 : ∀ c (a : Act) (d : Option Tmp) (v : Value) (w : World), Q (.panic c) (a.put d v) w → Q (.panic c) a w)
    (h : (∀ c (a : Act) (d : Option Tmp) (v : Value) (w : World), Q (.panic c) (a.put d v) w → Q (.panic c) a w) → wpAnyH P md ops Q S f l a w) : wpAnyH P md ops Q S f l a w := h h0
theorem build_gate {P : Program} {ops : Array Oper} {Q : Exit → Act → World → Prop} {rest : List Oper} {a : Act} {w : World} {t ty : TypeId} {parts : Array (Nat × Operand)} {pos : String} {aft : Array Edge} {g : Option (Nat × Bool)} (n : Tmp)
    (h : wpList P ops Q (⟨some n, .build t parts, ty, pos, aft, g⟩ :: rest) a w) : wpList P ops Q (⟨some n, .build t parts, ty, pos, aft, g⟩ :: rest) a w := h
theorem bslice_gate {P : Program} {ops : Array Oper} {Q : Exit → Act → World → Prop} {rest : List Oper} {a : Act} {w : World} {t ty : TypeId} {k : Nat} {parts : Array (Nat × Operand)} {pos : String} {aft : Array Edge} {g : Option (Nat × Bool)} (n : Tmp)
    (h : wpList P ops Q (⟨some n, .buildSlice t k parts, ty, pos, aft, g⟩ :: rest) a w) : wpList P ops Q (⟨some n, .buildSlice t k parts, ty, pos, aft, g⟩ :: rest) a w := h
/-- A book of leases that acts have made. -/
structure PB (b : List Le) : Prop where
  l : b.length = 16
  o : ∀ x ∈ b, x.Ok
  t : ∀ x ∈ b, x.on = true → 0 ≤ x.too ∧ x.too < 6
theorem PB.zero : PB zeroBook := ⟨rfl, (fun x hx => by rw [(List.mem_replicate.1 hx).2]; exact zeroLe_ok), (fun x hx h => by rw [(List.mem_replicate.1 hx).2] at h; cases h)⟩
theorem PB.set {b : List Le} (h : PB b) (k : Nat) {x : Le} (hx : x.Ok) (ht : x.on = true → 0 ≤ x.too ∧ x.too < 6) : PB (b.set k x) :=
  ⟨by rw [List.length_set, h.l], (fun y hy => by
    rcases List.mem_or_eq_of_mem_set hy with h1 | rfl
    · exact h.o y h1
    · exact hx), (fun y hy hn => by
    rcases List.mem_or_eq_of_mem_set hy with h1 | rfl
    · exact h.t y h1 hn
    · exact ht hn)⟩
theorem neq_book {b : List Le} (h : PB b) (W : World) : (binOp .neq 25 (.agg (bookCells b).toArray) (.agg (bookCells b).toArray)).run Try.prog W = .ok (.bool false) W :=
  (eql_same (P := Try.prog) (w := W) (w0 := W) (n := 5) (t := 25) (s := .rep 16 leSh) (by kernel_rfl) (by omega) (by kernel_rfl) (fits_book h.l h.o W)).2
/-- The least that is free, from the end on: of the last c. -/
def dn (b : List Le) : Nat → Int
  | 0 => -1
  | c + 1 => if (b.getD (15 - c) zeroLe).on = false then ((15 - c : Nat) : Int) else dn b c
theorem dn_drop {b : List Le} (hb : b.length = 16) (c : Nat) (hc : c ≤ 16) : dn b c = if fnd (fun x => !x.on) (b.drop (16 - c)) < c then ((16 - c + fnd (fun x => !x.on) (b.drop (16 - c)) : Nat) : Int) else -1 := by
  induction c with
  | zero => simp [dn]
  | succ c ih =>
    have e : 16 - (c + 1) = 15 - c := by omega
    have h15 : 15 - c < b.length := by omega
    have e2 : 15 - c + 1 = 16 - c := by omega
    rw [dn, ih (by omega), e, List.drop_eq_getElem_cons h15, e2, fnd]
    have eg : b.getD (15 - c) zeroLe = b[15 - c] := by rw [List.getD_eq_getElem?_getD, List.getElem?_eq_getElem h15]; rfl
    rw [eg]
    cases hon : b[15 - c].on with
    | false => simp
    | true =>
      simp only [Bool.not_true, Bool.false_eq_true, if_false, Bool.true_eq_false]
      by_cases h : fnd (fun x => !x.on) (b.drop (16 - c)) < c
      · rw [if_pos h, if_pos (by omega)]
        omega
      · rw [if_neg h, if_neg (by omega)]
theorem dn_all {b : List Le} (hb : b.length = 16) : dn b 16 = if fnd (fun x => !x.on) b < 16 then ((fnd (fun x => !x.on) b : Nat) : Int) else -1 := by
  rw [dn_drop hb 16 (Nat.le_refl _)]
  simp
/-- What an offer comes to. -/
theorem offer_gen {b : List Le} (hb : b.length = 16) (f p t : Int) (wr : Bool) :
    ((rightL f p = false ∨ rightL t 0 = false ∨ f = t) ∧ offerL b f p t wr = (b, 0, 1)) ∨ (¬ (rightL f p = false ∨ rightL t 0 = false ∨ f = t) ∧ dn b 16 = -1 ∧ offerL b f p t wr = (b, 0, 3)) ∨
    (¬ (rightL f p = false ∨ rightL t 0 = false ∨ f = t) ∧ ∃ k : Nat, k < 16 ∧ dn b 16 = (k : Int) ∧ offerL b f p t wr = (b.set k ⟨true, f, p, t, wr, -1⟩, (k : Int), 0)) := by
  unfold offerL
  by_cases h : rightL f p = false ∨ rightL t 0 = false ∨ f = t
  · rw [if_pos h]; exact .inl ⟨h, rfl⟩
  · rw [if_neg h]
    have hd := dn_all hb
    by_cases hk : fnd (fun x => !x.on) b < 16
    · rw [if_pos hk] at hd ⊢
      exact .inr (.inr ⟨h, _, hk, hd, rfl⟩)
    · rw [if_neg hk] at hd ⊢
      exact .inr (.inl ⟨h, hd, rfl⟩)
theorem rightL_of (vm pg : Int) : rightL vm pg = (decide (0 ≤ vm ∧ vm < 6) && decide (0 ≤ pg ∧ pg < 32)) := by
  unfold rightL
  rw [Bool.eq_iff_iff]; simp; omega
theorem size6A : (Try.prog.info? 38).map (·.size) = some 6 := by kernel_rfl
theorem zero_book24 (w : World) : (zeroValue 24).run Try.prog w = .ok (.agg zeroCells.toArray) w := by kernel_rfl
/-- What is wanted of an act on a lease: its owner is who asks? -/
def wantE (kk : Int) (on own : Bool) (at0 : Int) (pok : Bool) : Int :=
  if on = false then 2 else if own = false then 7 else if kk = 5 ∧ at0 < 0 then 10 else if kk ≠ 5 ∧ 0 ≤ at0 then 8 else if kk < 5 ∧ pok = false then 1 else 0
structure AR (b : List Le) (xn : Int) (b' : List Le) (x' : Le) (e : Int) : Prop where
  pb : PB b'
  no : e ≠ 0 → b' = b
  ok : e = 0 → ∃ i : Nat, xn = (i : Int) ∧ i < 16 ∧ b' = b.set i x'
theorem AR.bad {b : List Le} {xn : Int} {x' : Le} {e : Int} (h : PB b) (he : e ≠ 0) : AR b xn b x' e := ⟨h, fun _ => rfl, fun h0 => absurd h0 he⟩
theorem AR.good {b : List Le} {i : Nat} {x' : Le} (h : PB b) (hi : i < 16) (hx : x'.Ok) (ht : x'.on = true → 0 ≤ x'.too ∧ x'.too < 6) : AR b (i : Int) (b.set i x') x' 0 := ⟨h.set i hx ht, fun h0 => absurd rfl h0, fun _ => ⟨i, rfl, hi, rfl⟩⟩
theorem ok_at {on wr : Bool} {f p t a a' : Int} (h : (Le.mk on f p t wr a).Ok) (ha : (Lit.int .i64 a').wf = true) : (Le.mk on f p t wr a').Ok := ⟨h.a, h.b, h.c, ha⟩
theorem ar_leave {b : List Le} {xn vm kk ow we fr p0 too at0 : Int} {on wr0 pok : Bool} (hk : kk = 5) (h : PB b) (hg : getL b xn = if on = true then (⟨on, fr, p0, too, wr0, at0⟩, 0) else (zeroLe, 2))
    (hx : (∃ i : Nat, xn = (i : Int) ∧ i < 16 ∧ b[i]? = some ⟨on, fr, p0, too, wr0, at0⟩) ∨ ((xn < 0 ∨ 16 ≤ xn) ∧ (⟨on, fr, p0, too, wr0, at0⟩ : Le) = zeroLe)) (ho : (if kk = 6 then fr else too) = ow) (hw : wantE kk on (decide (ow = vm)) at0 pok = we) :
    ∃ b', leaveL b xn vm = (b', we) ∧ AR b xn b' ⟨on, fr, p0, too, wr0, -1⟩ we := by
  subst hk
  rw [if_neg (by decide)] at ho
  subst ho; subst hw
  unfold leaveL wantE
  rw [hg]
  cases on with
  | false => exact ⟨b, by simp, AR.bad h (by simp)⟩
  | true =>
    by_cases hv : too = vm
    · by_cases ha : at0 < 0
      · exact ⟨b, by simp [hv, ha], by simp [hv, ha]; exact AR.bad h (by decide)⟩
      · rcases hx with ⟨i, rfl, hi, hb⟩ | ⟨_, hz⟩
        · have hok := h.o _ (List.mem_of_getElem? hb)
          refine ⟨b.set i ⟨true, fr, p0, too, wr0, -1⟩, by simp [hv, ha], ?_⟩
          simp [hv, ha]
          exact AR.good h hi (ok_at (a := at0) (by rw [← hv]; exact hok) (by decide)) (fun _ => by have := h.t _ (List.mem_of_getElem? hb) rfl; rw [← hv]; exact this)
        · cases hz
    · exact ⟨b, by simp [hv], by simp [hv]; exact AR.bad h (by decide)⟩
theorem ar_withdraw {b : List Le} {xn vm kk ow we fr p0 too at0 : Int} {on wr0 pok : Bool} (hk : kk = 6) (h : PB b) (hg : getL b xn = if on = true then (⟨on, fr, p0, too, wr0, at0⟩, 0) else (zeroLe, 2))
    (hx : (∃ i : Nat, xn = (i : Int) ∧ i < 16 ∧ b[i]? = some ⟨on, fr, p0, too, wr0, at0⟩) ∨ ((xn < 0 ∨ 16 ≤ xn) ∧ (⟨on, fr, p0, too, wr0, at0⟩ : Le) = zeroLe)) (ho : (if kk = 6 then fr else too) = ow) (hw : wantE kk on (decide (ow = vm)) at0 pok = we) :
    ∃ b', withdrawL b xn vm = (b', we) ∧ AR b xn b' ⟨false, 0, 0, 0, false, 0⟩ we := by
  subst hk
  rw [if_pos rfl] at ho
  subst ho; subst hw
  unfold withdrawL wantE
  rw [hg]
  cases on with
  | false => exact ⟨b, by simp, AR.bad h (by simp)⟩
  | true =>
    by_cases hv : fr = vm
    · by_cases ha : 0 ≤ at0
      · exact ⟨b, by simp [hv, ha], by simp [hv, ha]; exact AR.bad h (by decide)⟩
      · rcases hx with ⟨i, rfl, hi, hb⟩ | ⟨_, hz⟩
        · refine ⟨b.set i zeroLe, by simp [hv, ha], ?_⟩
          simp [hv, ha]
          exact AR.good h hi zeroLe_ok (fun h => by cases h)
        · cases hz
    · exact ⟨b, by simp [hv], by simp [hv]; exact AR.bad h (by decide)⟩
theorem ar_accept {b : List Le} {xn vm kk ow we fr p0 too at0 pg : Int} {on wr0 pok : Bool} (hk : kk < 5) (hp : decide (0 ≤ pg ∧ pg < 32) = pok) (h : PB b) (hg : getL b xn = if on = true then (⟨on, fr, p0, too, wr0, at0⟩, 0) else (zeroLe, 2))
    (hx : (∃ i : Nat, xn = (i : Int) ∧ i < 16 ∧ b[i]? = some ⟨on, fr, p0, too, wr0, at0⟩) ∨ ((xn < 0 ∨ 16 ≤ xn) ∧ (⟨on, fr, p0, too, wr0, at0⟩ : Le) = zeroLe)) (ho : (if kk = 6 then fr else too) = ow) (hw : wantE kk on (decide (ow = vm)) at0 pok = we) :
    ∃ b', acceptL b xn vm pg = (b', we) ∧ AR b xn b' ⟨on, fr, p0, too, wr0, pg⟩ we := by
  have k6 : ¬ kk = 6 := by omega
  have k5 : ¬ kk = 5 := by omega
  rw [if_neg k6] at ho
  subst ho; subst hw; subst hp
  unfold acceptL wantE
  rw [hg]
  cases on with
  | false => exact ⟨b, by simp, AR.bad h (by simp)⟩
  | true =>
    by_cases hv : too = vm
    · by_cases ha : 0 ≤ at0
      · exact ⟨b, by simp [hv, ha, k5], by simp [hv, ha, k5]; exact AR.bad h (by decide)⟩
      · rcases hx with ⟨i, rfl, hi, hb⟩ | ⟨_, hz⟩
        · have hok := h.o _ (List.mem_of_getElem? hb)
          have ht := h.t _ (List.mem_of_getElem? hb) rfl
          simp only at ht
          have hr : rightL vm pg = decide (0 ≤ pg ∧ pg < 32) := by rw [rightL_of, decide_eq_true (show 0 ≤ vm ∧ vm < 6 by omega)]; simp
          by_cases hq : 0 ≤ pg ∧ pg < 32
          · have hr2 := hr
            rw [decide_eq_true hq] at hr2
            refine ⟨b.set i ⟨true, fr, p0, too, wr0, pg⟩, by simp [hv, ha, hr2, k5, hq], ?_⟩
            simp [hv, ha, k5, hq]
            exact AR.good h hi (ok_at (a := at0) (by rw [← hv]; exact hok) (wf_i64_mk (by omega))) (fun _ => by rw [← hv]; exact ht)
          · have hr2 := hr
            rw [decide_eq_false hq] at hr2
            refine ⟨b, ?_, ?_⟩
            · simp only [hv, ha, hr2, k5, hk, decide_eq_false hq]; simp; try omega
            · simp only [hv, ha, hr2, k5, hk, decide_eq_false hq]; simp; exact AR.bad h (by decide)
        · cases hz
    · exact ⟨b, by simp [hv], by simp [hv]; exact AR.bad h (by decide)⟩
theorem built_le (a b c : Int) (g : Bool) : Try.prog.built 23 [(0, .bool true), (1, .int .i64 a), (2, .int .i64 b), (3, .int .i64 c), (4, .bool g), (5, .int .i64 (-1))] = some #[.bool true, .int .i64 a, .int .i64 b, .int .i64 c, .bool g, .int .i64 (-1)] := by kernel_rfl
theorem built_le0 : Try.prog.built 23 [] = some #[.bool false, .int .i64 0, .int .i64 0, .int .i64 0, .bool false, .int .i64 0] := by kernel_rfl
set_option maxRecDepth 100000 in
set_option maxHeartbeats 16000000 in
theorem leasePlays_walk (v0 : Value) (w : World) (f0 : Fits w (.slice acSh) [v0]) :
    Calls Try.prog 6 #[v0] w fun e w' => e = .returned (.bool true) ∧ Below w.heap.size w w' := by
  obtain ⟨av, cp, segs, rfl, hcap, hmx, hfit, hat⟩ := rowS_of f0 (by decide)
  have hmx' : segs.length ≤ 9223372036854775807 := by unfold maxLen at hmx; omega
  clear f0 hmx hcap
  have HF := Lib.hid hfit
  have HA := Lib.hid hat
  clear hfit hat
  obtain ⟨ZC, hZC⟩ : ∃ ZC, zeroCells = ZC := ⟨_, rfl⟩
  have hz : ∀ w, (zeroValue 25).run Try.prog w = .ok (.agg ZC.toArray) w := by rw [← hZC]; exact zero_book
  have FZ := Lib.hid (show BookF ZC by rw [← hZC]; exact bookF (b := zeroBook) rfl)
  have hzs : ZC.toArray.size = 96 := by simpa using FZ.out.l
  have hzn : ¬ ZC.toArray = #[] := fun h => by rw [h] at hzs; simp at hzs
  have hz24 : ∀ w, (zeroValue 24).run Try.prog w = .ok (.agg ZC.toArray) w := by rw [← hZC]; exact zero_book24
  have HZC := Lib.hid hZC
  clear hZC
  go_enter Try.func6, Try.ntmps6
  go_wp2_with fail
  refine (awake_calls _).mono ?_
  rintro e w1 ⟨rfl, u1⟩
  have B2 := Lib.hid (u1)
  clear u1
  by_cases h60 : 60 < segs.length
  · have hd : decide (60 < (segs.length : Int)) = true := decide_eq_true (by omega)
    go_wp2_with fail
    refine (awake_calls _).mono ?_
    rintro e w3 ⟨rfl, u3⟩
    have B4 := Lib.hid (B2.out.trans (u3.mono B2.out.size))
    clear u3 B2
    go_wp2_with fail
    go_ret
    exact ⟨rfl, B4.out⟩
  · have hd : decide (60 < (segs.length : Int)) = false := decide_eq_false (by omega)
    have X_3 := Lib.hid (Own.newL B2.out ZC 25)
    clear B2
    go_upto_region 4 with (fail)
    generalize w1.alloc (.cells ZC.toArray 25) = w4 at *
    generalize w1.heap.size = NX at *
    have L_5 := Lib.hid (Own.newL X_3.out.bel ZC 24)
    have LT_X_L := Lib.hid (show NX < w4.heap.size from X_3.out.lt)
    have X_6 := Lib.hid (X_3.out.alloc (.cells ZC.toArray 24))
    clear X_3
    go_upto_region 5 with (fail)
    generalize w4.alloc (.cells ZC.toArray 24) = w7 at *
    generalize w4.heap.size = NL at *
    go_wp2_with fail
    go_loopw [5] (fun i wr => ∃ (k : Nat) (b : List Le), k ≤ segs.length ∧ i = .int .i64 k ∧ PB b ∧ Own w NX (bookCells b) 25 wr ∧ Own w NL (bookCells b) 24 wr) (fun i _ => segs.length - (intOf i).toNat)
    case atStart => exact ⟨0, zeroBook, by omega, rfl, PB.zero, by show Own _ _ zeroCells _ _; rw [HZC.out]; exact X_6.out, by show Own _ _ zeroCells _ _; rw [HZC.out]; exact L_5.out⟩
    case round =>
      clear X_6 L_5
      obtain ⟨k, b, hk, rfl, hpb, o1, o2⟩ := hrel
      have X0 := Lib.hid o1
      have L0 := Lib.hid o2
      have PB1 := Lib.hid hpb
      clear o1 o2 hpb
      by_cases hlt : k < segs.length
      · have hk0 : 0 ≤ (k : Int) := by omega
        have hki : (k : Int) < (segs.length : Int) := by omega
        obtain ⟨b5, o5, rfl, hrow⟩ := HA.out k _ (List.getElem?_eq_getElem hlt)
        obtain ⟨x, hxs, hxo⟩ := ac_of_fits (HF.out segs[k] (List.getElem_mem hlt))
        rw [hxs] at hrow
        obtain ⟨xk, xn, vm, pg, tt, xw⟩ := x
        have RG : Hid (wr.rangeAt b5 (o5 + k * 6) [.int .u8 (xk : Int), .int .i64 xn, .int .i64 vm, .int .i64 pg, .int .i64 tt, .bool xw]) := hrow _ X0.out.bel
        have LA := Lib.hid size6A
        have HXO := Lib.hid hxo
        have xk0 : 0 ≤ (xk : Int) := by omega
        have xk1 : (xk : Int) < 256 := by have h : xk < 256 := hxo.k; omega
        have F1 := Lib.hid (bookF PB1.out.l)
        have I24 := Lib.hid (show (Try.prog.info? 24).map (·.size) = some (bookCells b).length by rw [bookCells_length, PB1.out.l, size96A])
        have NB := Lib.hid (fun W => neq_book PB1.out W)
        have GET := Lib.hid (fun (i : Nat) (x : Le) (hx : b[i]? = some x) => bookCells_get b hx (j := 0) (by omega))
        have SEG := Lib.hid (fun (i : Nat) (x : Le) (hx : b[i]? = some x) => show ((bookCells b).drop (i * 6)).take 6 = x.cells by rw [Nat.mul_comm]; exact bookCells_seg b hx)
        have SET := Lib.hid (fun (i : Nat) (hi : i < 16) (x : Le) => show (bookCells b).take (i * 6) ++ x.cells ++ (bookCells b).drop (i * 6 + x.cells.length) = bookCells (b.set i x) by
          have h := bookCells_set b x (show i < b.length by rw [PB1.out.l]; exact hi)
          rw [Nat.mul_comm] at h
          exact h)
        generalize hBK : bookCells b = BK at *
        have HBK := Lib.hid hBK
        clear hBK hrow hxs hxo
        go_upto_region 9 with (refine wpList_load_mid rfl 38 (.tmp 37) rfl b5 (o5 + k * 6) rfl [.int .u8 (xk : Int), .int .i64 xn, .int .i64 vm, .int .i64 pg, .int .i64 tt, .bool xw] _ RG.out Try.underlying38 rfl LA.out ?_)
        have Q_8 := Lib.hid (Own.new X0.out.bel #[.int .u8 (xk : Int), .int .i64 xn, .int .i64 vm, .int .i64 pg, .int .i64 tt, .bool xw] 38)
        have LT_X_Q := Lib.hid (show NX < wr.heap.size from X0.out.lt)
        have X_9 := Lib.hid (X0.out.alloc (.cells #[.int .u8 (xk : Int), .int .i64 xn, .int .i64 vm, .int .i64 pg, .int .i64 tt, .bool xw] 38))
        have LT_L_Q := Lib.hid (show NL < wr.heap.size from L0.out.lt)
        have L_10 := Lib.hid (L0.out.alloc (.cells #[.int .u8 (xk : Int), .int .i64 xn, .int .i64 vm, .int .i64 pg, .int .i64 tt, .bool xw] 38))
        clear X0 L0
        generalize wr.alloc (.cells #[.int .u8 (xk : Int), .int .i64 xn, .int .i64 vm, .int .i64 pg, .int .i64 tt, .bool xw] 38) = w11 at *
        generalize wr.heap.size = NQ at *
        have d0 := Q_8.out.cell (i := 0) rfl
        have d1 := Q_8.out.cell (i := 1) rfl
        have d2 := Q_8.out.cell (i := 2) rfl
        have d3 := Q_8.out.cell (i := 3) rfl
        have d4 := Q_8.out.cell (i := 4) rfl
        have d5 := Q_8.out.cell (i := 5) rfl
        obtain ⟨vok, hvok⟩ : ∃ q, decide (0 ≤ vm ∧ vm < 6) = q := ⟨_, rfl⟩
        obtain ⟨pok, hpok⟩ : ∃ q, decide (0 ≤ pg ∧ pg < 32) = q := ⟨_, rfl⟩
        have HV := Lib.hid hvok
        have HP := Lib.hid hpok
        clear hvok hpok
        go_cut [7] from 39 to 39 (fun s wx => s = .bool vok ∧ w11 = wx)
        case first =>
          as_aux_lemma =>
            by_cases h1 : 0 ≤ vm
            · by_cases h2 : vm < 6
              · have e1 : decide (0 ≤ vm) = true := decide_eq_true h1
                have e2 : decide (vm < 6) = true := decide_eq_true h2
                go_wp2_with fail
                go_meet
                exact ⟨by rw [← HV.out, decide_eq_true ⟨h1, h2⟩], rfl⟩
              · have e1 : decide (0 ≤ vm) = true := decide_eq_true h1
                have e2 : decide (vm < 6) = false := decide_eq_false h2
                go_wp2_with fail
                go_meet
                exact ⟨by rw [← HV.out, decide_eq_false (by omega)], rfl⟩
            · have e1 : decide (0 ≤ vm) = false := decide_eq_false h1
              go_wp2_with fail
              go_meet
              exact ⟨by rw [← HV.out, decide_eq_false (by omega)], rfl⟩
        obtain ⟨rfl, rfl⟩ := hcut
        go_upto_region 10 with (fail)
        go_cut [8] from 47 to 47 (fun s wx => s = .bool pok ∧ w11 = wx)
        case first =>
          as_aux_lemma =>
            by_cases h1 : 0 ≤ pg
            · by_cases h2 : pg < 32
              · have e1 : decide (0 ≤ pg) = true := decide_eq_true h1
                have e2 : decide (pg < 32) = true := decide_eq_true h2
                go_wp2_with fail
                go_meet
                exact ⟨by rw [← HP.out, decide_eq_true ⟨h1, h2⟩], rfl⟩
              · have e1 : decide (0 ≤ pg) = true := decide_eq_true h1
                have e2 : decide (pg < 32) = false := decide_eq_false h2
                go_wp2_with fail
                go_meet
                exact ⟨by rw [← HP.out, decide_eq_false (by omega)], rfl⟩
            · have e1 : decide (0 ≤ pg) = false := decide_eq_false h1
              go_wp2_with fail
              go_meet
              exact ⟨by rw [← HP.out, decide_eq_false (by omega)], rfl⟩
        obtain ⟨rfl, rfl⟩ := hcut
        go_upto_region 11 with (fail)
        go_upto_region 12 with (fail)
        obtain ⟨kk, hkk, kk0, kk8⟩ : ∃ q : Int, (xk : Int) % 8 = q ∧ 0 ≤ q ∧ q < 8 := ⟨_, rfl, by omega, by omega⟩
        rw [hkk]
        clear hkk xk0 xk1

        by_cases hk3 : kk < 3
        · have e3 : decide (kk < 3) = true := decide_eq_true hk3
          have OG := Lib.hid (offer_gen PB1.out.l vm pg tt xw)
          have C1 := Lib.hid (fun w => offer_calls b vm pg tt xw PB1.out.l w)
          clear d0 d1 d2 d3 d4 d5
          go_wp2_with fail
          go_loopw [11, 12] (fun a i wq => ∃ j : Nat, j ≤ 16 ∧ i = .int .i64 ((j : Int) - 1) ∧ a = .int .i64 (dn b (16 - j)) ∧ w11 = wq) (fun _ i _ => (intOf i + 1).toNat)
          case atStart => exact ⟨16, by omega, rfl, rfl, rfl⟩
          case round =>
            obtain ⟨j, hj, rfl, rfl, rfl⟩ := hrel
            cases j with
            | zero =>
              clear hj
              go_upto_region 20 with (fail)
              rcases OG.out with ⟨hbad, e1⟩ | ⟨hbad, hdn, e1⟩ | ⟨hbad, i, hi16, hdn, e1⟩
              · as_aux_lemma =>
                have d2 := Q_8.out.cell (i := 2) rfl
                have d4 := Q_8.out.cell (i := 4) rfl
                rw [e1] at C1
                dsimp only at C1
                rw [HBK.out] at C1
                clear e1 OG
                generalize dn b (16 - 0) = atv at *
                go_cut [92] from 70 to 70 (fun s wx => s = .bool true ∧ w11 = wx)
                case first =>
                  as_aux_lemma =>
                    cases vok with
                    | false =>
                      go_wp2_with fail
                      go_meet
                      exact ⟨rfl, rfl⟩
                    | true =>
                      cases pok with
                      | false =>
                        go_wp2_with fail
                        go_meet
                        exact ⟨rfl, rfl⟩
                      | true =>
                        by_cases q1 : tt < 0
                        · have z1 : decide (tt < 0) = true := decide_eq_true q1
                          go_wp2_with fail
                          go_meet
                          exact ⟨rfl, rfl⟩
                        · have z1 : decide (tt < 0) = false := decide_eq_false q1
                          by_cases q2 : 5 < tt
                          · have z2 : decide (5 < tt) = true := decide_eq_true q2
                            go_wp2_with fail
                            go_meet
                            exact ⟨rfl, rfl⟩
                          · have z2 : decide (5 < tt) = false := decide_eq_false q2
                            have z3 : vm = tt := by
                              have h1 := of_decide_eq_true HV.out
                              have h2 := of_decide_eq_true HP.out
                              rcases hbad with h | h | h
                              · rw [rightL_of, HV.out, HP.out] at h; cases h
                              · unfold rightL at h
                                have := of_decide_eq_false h
                                omega
                              · exact h
                            subst z3
                            go_wp2_with fail
                            go_meet
                            exact ⟨rfl, rfl⟩
                obtain ⟨rfl, rfl⟩ := hcut
                clear hbad d2 d4
                have d2 := Q_8.out.cell (i := 2) rfl
                have d3 := Q_8.out.cell (i := 3) rfl
                have d4 := Q_8.out.cell (i := 4) rfl
                have d5 := Q_8.out.cell (i := 5) rfl
                go_wp2_with (((with_reducible refine load_gate (25) (3) ?_); refine wpList_load_mid rfl 25 (.tmp 3) rfl NX 0 rfl BK _ X_9.out.all Try.underlying25 rfl F1.out.i ?_))
                refine (C1.out _).mono ?_
                rintro e w12 ⟨rfl, u12⟩
                have X_13 := Lib.hid (X_9.out.step u12)
                have L_14 := Lib.hid (L_10.out.step u12)
                have Q_15 := Lib.hid (Q_8.out.step u12)
                clear u12 X_9 L_10 Q_8
                clear d2 d3 d4 d5
                have Y_16 := Lib.hid (Own.newL X_13.out.bel ZC 25)
                have LT_X_Y := Lib.hid (show NX < w12.heap.size from X_13.out.lt)
                have X_17 := Lib.hid (X_13.out.alloc (.cells ZC.toArray 25))
                have LT_L_Y := Lib.hid (show NL < w12.heap.size from L_14.out.lt)
                have L_18 := Lib.hid (L_14.out.alloc (.cells ZC.toArray 25))
                have LT_Q_Y := Lib.hid (show NQ < w12.heap.size from Q_15.out.lt)
                have Q_19 := Lib.hid (Q_15.out.alloc (.cells ZC.toArray 25))
                go_upto_region 25 with (((with_reducible refine store_gate (25) (13) (106) ?_); refine wpList_store_mid rfl 25 (.tmp 13) (.tmp 106) rfl w12.heap.size 0 BK.toArray rfl rfl (Y_16.out.there ?s1) ?s2 ?s3 ?_))
                case s1 => have h1 := FZ.out.l; have h2 := F1.out.l; simp <;> omega
                case s2 => simpa using F1.out.i
                case s3 => first | exact F1.out.o | exact all_oneCell_toArray F1.out.o
                have Y_20 := Lib.hid (Y_16.out.setAll BK (by rw [F1.out.l, FZ.out.l]))
                have X_21 := Lib.hid (X_17.out.setAllO (Ne.symm (Nat.ne_of_lt LT_X_Y.out)) Y_16.out.n 0 BK)
                have L_22 := Lib.hid (L_18.out.setAllO (Ne.symm (Nat.ne_of_lt LT_L_Y.out)) Y_16.out.n 0 BK)
                have Q_23 := Lib.hid (Q_19.out.setAllO (Ne.symm (Nat.ne_of_lt LT_Q_Y.out)) Y_16.out.n 0 BK)
                clear Y_16 X_17 L_18 Q_19
                clear X_13 L_14 Q_15
                generalize World.setCells _ _ _ _ = w24 at *
                generalize w12.heap.size = NY at *
                have nb := NB.out
                go_upto_region 28 with (first | ((with_reducible refine load_gate (25) (13) ?_); refine wpList_load_mid rfl 25 (.tmp 13) rfl NY 0 rfl BK _ Y_20.out.all Try.underlying25 rfl F1.out.i ?_) | ((with_reducible refine load_gate (25) (13) ?_); refine wpList_load_w (by rfl) 25 (.tmp 13) rfl NY 0 rfl BK _ Y_20.out.all Try.underlying25 rfl F1.out.i ?_) | ((with_reducible refine load_gate (25) (3) ?_); refine wpList_load_w (by rfl) 25 (.tmp 3) rfl NX 0 rfl BK _ X_21.out.all Try.underlying25 rfl F1.out.i ?_) | ((with_reducible refine store_gate (25) (3) (134) ?_); refine wpList_store_mid rfl 25 (.tmp 3) (.tmp 134) rfl NX 0 BK.toArray rfl rfl (X_21.out.there ?s1) ?s2 ?s3 ?_))
                case s1 => simp
                case s2 => simpa using F1.out.i
                case s3 => first | exact F1.out.o | exact all_oneCell_toArray F1.out.o
                have X_25 := Lib.hid (X_21.out.setAll BK (rfl))
                have L_26 := Lib.hid (L_22.out.setAllO (Nat.ne_of_lt LT_X_L.out) X_21.out.n 0 BK)
                have Q_27 := Lib.hid (Q_23.out.setAllO (Nat.ne_of_lt LT_X_Q.out) X_21.out.n 0 BK)
                have Y_28 := Lib.hid (Y_20.out.setAllO (Nat.ne_of_lt LT_X_Y.out) X_21.out.n 0 BK)
                clear X_21 L_22 Q_23 Y_20
                generalize World.setCells _ _ _ _ = w29 at *
                clear nb
                clear Y_28
                clear Q_27
                have nb := NB.out
                go_wp2_with (first | ((with_reducible refine load_gate (25) (3) ?_); refine wpList_load_mid rfl 25 (.tmp 3) rfl NX 0 rfl BK _ X_25.out.all Try.underlying25 rfl F1.out.i ?_) | ((with_reducible refine load_gate (24) (4) ?_); refine wpList_load_mid rfl 24 (.tmp 4) rfl NL 0 rfl BK _ L_26.out.all Try.underlying24 rfl I24.out ?_))
                go_roundw
                case rel => exact ⟨k + 1, b, by omega, by go_num, PB1.out, by rw [HBK.out]; exact X_25.out, by rw [HBK.out]; exact L_26.out⟩
                case measure => simp [intOf]; omega
              · as_aux_lemma =>
                have d2 := Q_8.out.cell (i := 2) rfl
                have d4 := Q_8.out.cell (i := 4) rfl
                have g1 : vok = true ∧ pok = true := by
                  cases vok with
                  | false => exact absurd (.inl (by rw [rightL_of, HV.out]; rfl)) hbad
                  | true =>
                    cases pok with
                    | false => exact absurd (.inl (by rw [rightL_of, HV.out, HP.out]; rfl)) hbad
                    | true => exact ⟨rfl, rfl⟩
                obtain ⟨rfl, rfl⟩ := g1
                have g2 : ¬ tt < 0 := fun h => hbad (.inr (.inl (by unfold rightL; exact decide_eq_false (by omega))))
                have g3 : ¬ 5 < tt := fun h => hbad (.inr (.inl (by unfold rightL; exact decide_eq_false (by omega))))
                have g4 : (vm == tt) = false := beq_false_of_ne (fun h => hbad (.inr (.inr h)))
                have z1 : decide (tt < 0) = false := decide_eq_false g2
                have z2 : decide (5 < tt) = false := decide_eq_false g3
                rw [e1] at C1
                dsimp only at C1
                clear e1 OG
                rw [show dn b (16 - 0) = _ from hdn]
                clear hdn
                rw [HBK.out] at C1
                clear hbad
                go_upto_region 24 with (fail)
                clear d2 d4
                have d2 := Q_8.out.cell (i := 2) rfl
                have d3 := Q_8.out.cell (i := 3) rfl
                have d4 := Q_8.out.cell (i := 4) rfl
                have d5 := Q_8.out.cell (i := 5) rfl
                go_wp2_with (((with_reducible refine load_gate (25) (3) ?_); refine wpList_load_mid rfl 25 (.tmp 3) rfl NX 0 rfl BK _ X_9.out.all Try.underlying25 rfl F1.out.i ?_))
                refine (C1.out _).mono ?_
                rintro e w12 ⟨rfl, u12⟩
                have X_13 := Lib.hid (X_9.out.step u12)
                have L_14 := Lib.hid (L_10.out.step u12)
                have Q_15 := Lib.hid (Q_8.out.step u12)
                clear u12 X_9 L_10 Q_8
                clear d2 d3 d4 d5
                have Y_16 := Lib.hid (Own.newL X_13.out.bel ZC 25)
                have LT_X_Y := Lib.hid (show NX < w12.heap.size from X_13.out.lt)
                have X_17 := Lib.hid (X_13.out.alloc (.cells ZC.toArray 25))
                have LT_L_Y := Lib.hid (show NL < w12.heap.size from L_14.out.lt)
                have L_18 := Lib.hid (L_14.out.alloc (.cells ZC.toArray 25))
                have LT_Q_Y := Lib.hid (show NQ < w12.heap.size from Q_15.out.lt)
                have Q_19 := Lib.hid (Q_15.out.alloc (.cells ZC.toArray 25))
                go_upto_region 25 with (((with_reducible refine store_gate (25) (13) (106) ?_); refine wpList_store_mid rfl 25 (.tmp 13) (.tmp 106) rfl w12.heap.size 0 BK.toArray rfl rfl (Y_16.out.there ?s1) ?s2 ?s3 ?_))
                case s1 => have h1 := FZ.out.l; have h2 := F1.out.l; simp <;> omega
                case s2 => simpa using F1.out.i
                case s3 => first | exact F1.out.o | exact all_oneCell_toArray F1.out.o
                have Y_20 := Lib.hid (Y_16.out.setAll BK (by rw [F1.out.l, FZ.out.l]))
                have X_21 := Lib.hid (X_17.out.setAllO (Ne.symm (Nat.ne_of_lt LT_X_Y.out)) Y_16.out.n 0 BK)
                have L_22 := Lib.hid (L_18.out.setAllO (Ne.symm (Nat.ne_of_lt LT_L_Y.out)) Y_16.out.n 0 BK)
                have Q_23 := Lib.hid (Q_19.out.setAllO (Ne.symm (Nat.ne_of_lt LT_Q_Y.out)) Y_16.out.n 0 BK)
                clear Y_16 X_17 L_18 Q_19
                clear X_13 L_14 Q_15
                generalize World.setCells _ _ _ _ = w24 at *
                generalize w12.heap.size = NY at *
                have nb := NB.out
                go_upto_region 28 with (first | ((with_reducible refine load_gate (25) (13) ?_); refine wpList_load_mid rfl 25 (.tmp 13) rfl NY 0 rfl BK _ Y_20.out.all Try.underlying25 rfl F1.out.i ?_) | ((with_reducible refine load_gate (25) (13) ?_); refine wpList_load_w (by rfl) 25 (.tmp 13) rfl NY 0 rfl BK _ Y_20.out.all Try.underlying25 rfl F1.out.i ?_) | ((with_reducible refine load_gate (25) (3) ?_); refine wpList_load_w (by rfl) 25 (.tmp 3) rfl NX 0 rfl BK _ X_21.out.all Try.underlying25 rfl F1.out.i ?_) | ((with_reducible refine store_gate (25) (3) (134) ?_); refine wpList_store_mid rfl 25 (.tmp 3) (.tmp 134) rfl NX 0 BK.toArray rfl rfl (X_21.out.there ?s1) ?s2 ?s3 ?_))
                case s1 => simp
                case s2 => simpa using F1.out.i
                case s3 => first | exact F1.out.o | exact all_oneCell_toArray F1.out.o
                have X_25 := Lib.hid (X_21.out.setAll BK (rfl))
                have L_26 := Lib.hid (L_22.out.setAllO (Nat.ne_of_lt LT_X_L.out) X_21.out.n 0 BK)
                have Q_27 := Lib.hid (Q_23.out.setAllO (Nat.ne_of_lt LT_X_Q.out) X_21.out.n 0 BK)
                have Y_28 := Lib.hid (Y_20.out.setAllO (Nat.ne_of_lt LT_X_Y.out) X_21.out.n 0 BK)
                clear X_21 L_22 Q_23 Y_20
                generalize World.setCells _ _ _ _ = w29 at *
                clear nb
                clear Y_28
                clear Q_27
                have nb := NB.out
                go_wp2_with (first | ((with_reducible refine load_gate (25) (3) ?_); refine wpList_load_mid rfl 25 (.tmp 3) rfl NX 0 rfl BK _ X_25.out.all Try.underlying25 rfl F1.out.i ?_) | ((with_reducible refine load_gate (24) (4) ?_); refine wpList_load_mid rfl 24 (.tmp 4) rfl NL 0 rfl BK _ L_26.out.all Try.underlying24 rfl I24.out ?_))
                go_roundw
                case rel => exact ⟨k + 1, b, by omega, by go_num, PB1.out, by rw [HBK.out]; exact X_25.out, by rw [HBK.out]; exact L_26.out⟩
                case measure => simp [intOf]; omega
              · as_aux_lemma =>
                have d2 := Q_8.out.cell (i := 2) rfl
                have d4 := Q_8.out.cell (i := 4) rfl
                have g1 : vok = true ∧ pok = true := by
                  cases vok with
                  | false => exact absurd (.inl (by rw [rightL_of, HV.out]; rfl)) hbad
                  | true =>
                    cases pok with
                    | false => exact absurd (.inl (by rw [rightL_of, HV.out, HP.out]; rfl)) hbad
                    | true => exact ⟨rfl, rfl⟩
                obtain ⟨rfl, rfl⟩ := g1
                have g2 : ¬ tt < 0 := fun h => hbad (.inr (.inl (by unfold rightL; exact decide_eq_false (by omega))))
                have g3 : ¬ 5 < tt := fun h => hbad (.inr (.inl (by unfold rightL; exact decide_eq_false (by omega))))
                have g4 : (vm == tt) = false := beq_false_of_ne (fun h => hbad (.inr (.inr h)))
                have z1 : decide (tt < 0) = false := decide_eq_false g2
                have z2 : decide (5 < tt) = false := decide_eq_false g3
                rw [e1] at C1
                dsimp only at C1
                clear e1 OG
                rw [show dn b (16 - 0) = _ from hdn]
                clear hdn
                have hvm := of_decide_eq_true HV.out
                have hpg := of_decide_eq_true HP.out
                have htt : 0 ≤ tt ∧ tt < 6 := by omega
                rw [HBK.out] at C1
                clear hbad
                have PB2 := Lib.hid (PB1.out.set i (x := ⟨true, vm, pg, tt, xw, -1⟩) (Le.Ok.mk' hvm hpg htt (by omega)) (fun _ => htt))
                have F2 := Lib.hid (bookF PB2.out.l)
                have I2 := Lib.hid (show (Try.prog.info? 24).map (·.size) = some (bookCells (b.set i ⟨true, vm, pg, tt, xw, -1⟩)).length by rw [bookCells_length, PB2.out.l, size96A])
                have NB2 := Lib.hid (fun W => neq_book PB2.out W)
                have SETI := Lib.hid (SET.out i hi16 ⟨true, vm, pg, tt, xw, -1⟩)
                generalize hBN : bookCells (b.set i ⟨true, vm, pg, tt, xw, -1⟩) = BN at *
                have HBN := Lib.hid hBN
                clear hBN
                have i0 : 0 ≤ (i : Int) := by omega
                have i16 : (i : Int) < 16 := by omega
                clear hvm hpg htt g2 g3
                go_upto_region 24 with (fail)
                clear d2 d4
                have d2 := Q_8.out.cell (i := 2) rfl
                have d3 := Q_8.out.cell (i := 3) rfl
                have d4 := Q_8.out.cell (i := 4) rfl
                have d5 := Q_8.out.cell (i := 5) rfl
                go_wp2_with (((with_reducible refine load_gate (25) (3) ?_); refine wpList_load_mid rfl 25 (.tmp 3) rfl NX 0 rfl BK _ X_9.out.all Try.underlying25 rfl F1.out.i ?_))
                refine (C1.out _).mono ?_
                rintro e w12 ⟨rfl, u12⟩
                have X_13 := Lib.hid (X_9.out.step u12)
                have L_14 := Lib.hid (L_10.out.step u12)
                have Q_15 := Lib.hid (Q_8.out.step u12)
                clear u12 X_9 L_10 Q_8
                clear d2 d3 d4 d5
                have Y_16 := Lib.hid (Own.newL X_13.out.bel ZC 25)
                have LT_X_Y := Lib.hid (show NX < w12.heap.size from X_13.out.lt)
                have X_17 := Lib.hid (X_13.out.alloc (.cells ZC.toArray 25))
                have LT_L_Y := Lib.hid (show NL < w12.heap.size from L_14.out.lt)
                have L_18 := Lib.hid (L_14.out.alloc (.cells ZC.toArray 25))
                have LT_Q_Y := Lib.hid (show NQ < w12.heap.size from Q_15.out.lt)
                have Q_19 := Lib.hid (Q_15.out.alloc (.cells ZC.toArray 25))
                go_upto_region 25 with (((with_reducible refine store_gate (25) (13) (106) ?_); refine wpList_store_mid rfl 25 (.tmp 13) (.tmp 106) rfl w12.heap.size 0 BN.toArray rfl rfl (Y_16.out.there ?s1) ?s2 ?s3 ?_))
                case s1 => have h1 := FZ.out.l; have h2 := F2.out.l; simp <;> omega
                case s2 => simpa using F2.out.i
                case s3 => first | exact F2.out.o | exact all_oneCell_toArray F2.out.o
                have Y_20 := Lib.hid (Y_16.out.setAll BN (by rw [F2.out.l, FZ.out.l]))
                have X_21 := Lib.hid (X_17.out.setAllO (Ne.symm (Nat.ne_of_lt LT_X_Y.out)) Y_16.out.n 0 BN)
                have L_22 := Lib.hid (L_18.out.setAllO (Ne.symm (Nat.ne_of_lt LT_L_Y.out)) Y_16.out.n 0 BN)
                have Q_23 := Lib.hid (Q_19.out.setAllO (Ne.symm (Nat.ne_of_lt LT_Q_Y.out)) Y_16.out.n 0 BN)
                clear Y_16 X_17 L_18 Q_19
                clear X_13 L_14 Q_15
                generalize World.setCells _ _ _ _ = w24 at *
                generalize w12.heap.size = NY at *
                go_upto_region 28 with (first | ((with_reducible refine load_gate (25) (13) ?_); refine wpList_load_mid rfl 25 (.tmp 13) rfl NY 0 rfl BN _ Y_20.out.all Try.underlying25 rfl F2.out.i ?_) | ((with_reducible refine store_gate (25) (3) (134) ?_); refine wpList_store_mid rfl 25 (.tmp 3) (.tmp 134) rfl NX 0 BN.toArray rfl rfl (X_21.out.there ?s1) ?s2 ?s3 ?_))
                case s1 => have h1 := F1.out.l; have h2 := F2.out.l; simp <;> omega
                case s2 => simpa using F2.out.i
                case s3 => first | exact F2.out.o | exact all_oneCell_toArray F2.out.o
                have X_25 := Lib.hid (X_21.out.setAll BN (by rw [F2.out.l, F1.out.l]))
                have L_26 := Lib.hid (L_22.out.setAllO (Nat.ne_of_lt LT_X_L.out) X_21.out.n 0 BN)
                have Q_27 := Lib.hid (Q_23.out.setAllO (Nat.ne_of_lt LT_X_Q.out) X_21.out.n 0 BN)
                have Y_28 := Lib.hid (Y_20.out.setAllO (Nat.ne_of_lt LT_X_Y.out) X_21.out.n 0 BN)
                clear X_21 L_22 Q_23 Y_20
                generalize World.setCells _ _ _ _ = w29 at *
                clear Y_28
                have d2 := Q_27.out.cell (i := 2) rfl
                have d3 := Q_27.out.cell (i := 3) rfl
                have d4 := Q_27.out.cell (i := 4) rfl
                have d5 := Q_27.out.cell (i := 5) rfl
                have hth : Hid (w29.there NL (i * 6) 6) := there_of_blk L_26.out.k (by have := F1.out.l; omega)
                go_upto_region 67 with (first | ((with_reducible refine build_gate (146) ?_); refine wpList_buildTo rfl 23 _ rfl (some 146) rfl #[.bool true, .int .i64 vm, .int .i64 pg, .int .i64 tt, .bool xw, .int .i64 (-1)] (by rw [Array.toList_map]; exact built_le _ _ _ _) ?_) | ((with_reducible refine store_gate (23) (147) (146) ?_); refine wpList_store_mid rfl 23 (.tmp 147) (.tmp 146) rfl NL (i * 6) ((Le.mk true vm pg tt xw (-1)).cells).toArray rfl rfl hth.out (by simpa [Le.cells, zeroLe] using size6) (by simp [Le.cells, zeroLe, Value.oneCell']) ?_))
                have L_30 := Lib.hid (L_26.out.setSeg (i * 6) ((Le.mk true vm pg tt xw (-1)).cells) (by have := F1.out.l; simp only [Le.cells, zeroLe, List.length_cons, List.length_nil]; omega))
                rw [SETI.out] at L_30
                have X_31 := Lib.hid (X_25.out.setAllO (Ne.symm (Nat.ne_of_lt LT_X_L.out)) L_26.out.n (i * 6) ((Le.mk true vm pg tt xw (-1)).cells))
                have Q_32 := Lib.hid (Q_27.out.setAllO (Nat.ne_of_lt LT_L_Q.out) L_26.out.n (i * 6) ((Le.mk true vm pg tt xw (-1)).cells))
                clear L_26 X_25 Q_27
                generalize World.setCells _ _ _ _ = w33 at *
                clear d2 d3 d4 d5
                clear Q_32
                have nb := NB2.out
                go_wp2_with (first | ((with_reducible refine load_gate (25) (3) ?_); refine wpList_load_mid rfl 25 (.tmp 3) rfl NX 0 rfl BN _ X_31.out.all Try.underlying25 rfl F2.out.i ?_) | ((with_reducible refine load_gate (24) (4) ?_); refine wpList_load_mid rfl 24 (.tmp 4) rfl NL 0 rfl BN _ L_30.out.all Try.underlying24 rfl I2.out ?_))
                go_roundw
                case rel => exact ⟨k + 1, (b.set i ⟨true, vm, pg, tt, xw, -1⟩), by omega, by go_num, PB2.out, by rw [HBN.out]; exact X_31.out, by rw [HBN.out]; exact L_30.out⟩
                case measure => simp [intOf]; omega
            | succ j =>
              as_aux_lemma =>
                have e1 : ((j + 1 : Nat) : Int) - 1 = (j : Int) := by omega
                have hji : (j : Int) < 16 := by omega
                have hj0 : 0 ≤ (j : Int) := by omega
                obtain ⟨y, hy⟩ : ∃ y, b[j]? = some y := ⟨_, List.getElem?_eq_getElem (by rw [PB1.out.l]; omega)⟩
                have c0 : w11.cell? ⟨NL, j * 6, none⟩ = some (.bool y.on) := L_10.out.cell (GET.out j y hy)
                have hdn : dn b (16 - j) = if y.on = false then (j : Int) else dn b (16 - (j + 1)) := by
                  rw [show 16 - j = (15 - j) + 1 by omega, dn, show 15 - (15 - j) = j by omega, show 16 - (j + 1) = 15 - j by omega, List.getD_eq_getElem?_getD, hy]; rfl
                have HDN := Lib.hid hdn
                rw [e1]
                clear hdn hy
                generalize dn b (16 - (j + 1)) = dv at *
                cases hon : y.on with
                | false =>
                  rw [hon] at c0 HDN
                  go_wp2_with fail
                  go_roundw
                  case rel => exact ⟨j, by omega, by go_num, by rw [HDN.out, if_pos rfl], by trivial⟩
                  case measure => simp [intOf] <;> omega
                | true =>
                  rw [hon] at c0 HDN
                  go_wp2_with fail
                  go_roundw
                  case rel => exact ⟨j, by omega, by go_num, by rw [HDN.out, if_neg (by simp)], by trivial⟩
                  case measure => simp [intOf] <;> omega
        · have e3 : decide (kk < 3) = false := decide_eq_false hk3
          clear d0 d1 d2 d3 d4 d5 hk3
          by_cases hk7 : kk = 7
          · subst hk7
            have C1 := Lib.hid (fun w => drop_calls b xn PB1.out.l w)
            have DL := Lib.hid (show dropL b xn = if 0 ≤ xn ∧ xn < 16 then b.set xn.toNat zeroLe else b from rfl)
            rw [HBK.out] at C1
            by_cases hin : 0 ≤ xn ∧ xn < 16
            · as_aux_lemma =>
                rw [DL.out, if_pos hin] at C1
                obtain ⟨i, rfl⟩ := Int.eq_ofNat_of_zero_le hin.1
                rw [Int.toNat_natCast] at C1
                have hi16 : i < 16 := by omega
                have i0 : 0 ≤ (i : Int) := by omega
                have i16 : (i : Int) < 16 := by omega
                clear hin DL
                have PB2 := Lib.hid (PB1.out.set i (x := zeroLe) zeroLe_ok (fun h => by cases h))
                have F2 := Lib.hid (bookF PB2.out.l)
                have I2 := Lib.hid (show (Try.prog.info? 24).map (·.size) = some (bookCells (b.set i zeroLe)).length by rw [bookCells_length, PB2.out.l, size96A])
                have NB2 := Lib.hid (fun W => neq_book PB2.out W)
                have SETI := Lib.hid (SET.out i hi16 zeroLe)
                generalize hBN : bookCells (b.set i zeroLe) = BN at *
                have HBN := Lib.hid hBN
                clear hBN
                have d1 := Q_8.out.cell (i := 1) rfl
                go_wp2_with (((with_reducible refine load_gate (25) (3) ?_); refine wpList_load_mid rfl 25 (.tmp 3) rfl NX 0 rfl BK _ X_9.out.all Try.underlying25 rfl F1.out.i ?_))
                refine (C1.out _).mono ?_
                rintro e w12 ⟨rfl, u12⟩
                have X_13 := Lib.hid (X_9.out.step u12)
                have L_14 := Lib.hid (L_10.out.step u12)
                have Q_15 := Lib.hid (Q_8.out.step u12)
                clear u12 X_9 L_10 Q_8
                clear d1
                go_upto_region 32 with (((with_reducible refine store_gate (25) (3) (153) ?_); refine wpList_store_mid rfl 25 (.tmp 3) (.tmp 153) rfl NX 0 BN.toArray rfl rfl (X_13.out.there ?s1) ?s2 ?s3 ?_))
                case s1 => have h1 := F1.out.l; have h2 := F2.out.l; simp <;> omega
                case s2 => simpa using F2.out.i
                case s3 => first | exact F2.out.o | exact all_oneCell_toArray F2.out.o
                have X_16 := Lib.hid (X_13.out.setAll BN (by rw [F2.out.l, F1.out.l]))
                have L_17 := Lib.hid (L_14.out.setAllO (Nat.ne_of_lt LT_X_L.out) X_13.out.n 0 BN)
                have Q_18 := Lib.hid (Q_15.out.setAllO (Nat.ne_of_lt LT_X_Q.out) X_13.out.n 0 BN)
                clear X_13 L_14 Q_15
                generalize World.setCells _ _ _ _ = w19 at *
                have d1 := Q_18.out.cell (i := 1) rfl
                have hth : Hid (w19.there NL (i * 6) 6) := there_of_blk L_17.out.k (by have := F1.out.l; omega)
                go_upto_region 67 with (first | ((with_reducible refine build_gate (164) ?_); refine wpList_buildTo rfl 23 _ rfl (some 164) rfl #[.bool false, .int .i64 0, .int .i64 0, .int .i64 0, .bool false, .int .i64 0] (by rw [Array.toList_map]; exact built_le0) ?_) | ((with_reducible refine store_gate (23) (165) (164) ?_); refine wpList_store_mid rfl 23 (.tmp 165) (.tmp 164) rfl NL (i * 6) (zeroLe.cells).toArray rfl rfl hth.out (by simpa [Le.cells, zeroLe] using size6) (by simp [Le.cells, zeroLe, Value.oneCell']) ?_))
                have L_20 := Lib.hid (L_17.out.setSeg (i * 6) (zeroLe.cells) (by have := F1.out.l; simp only [Le.cells, zeroLe, List.length_cons, List.length_nil]; omega))
                rw [SETI.out] at L_20
                have X_21 := Lib.hid (X_16.out.setAllO (Ne.symm (Nat.ne_of_lt LT_X_L.out)) L_17.out.n (i * 6) (zeroLe.cells))
                have Q_22 := Lib.hid (Q_18.out.setAllO (Nat.ne_of_lt LT_L_Q.out) L_17.out.n (i * 6) (zeroLe.cells))
                clear L_17 X_16 Q_18
                generalize World.setCells _ _ _ _ = w23 at *
                clear d1
                clear Q_22
                have nb := NB2.out
                go_wp2_with (first | ((with_reducible refine load_gate (25) (3) ?_); refine wpList_load_mid rfl 25 (.tmp 3) rfl NX 0 rfl BN _ X_21.out.all Try.underlying25 rfl F2.out.i ?_) | ((with_reducible refine load_gate (24) (4) ?_); refine wpList_load_mid rfl 24 (.tmp 4) rfl NL 0 rfl BN _ L_20.out.all Try.underlying24 rfl I2.out ?_))
                go_roundw
                case rel => exact ⟨k + 1, (b.set i zeroLe), by omega, by go_num, PB2.out, by rw [HBN.out]; exact X_21.out, by rw [HBN.out]; exact L_20.out⟩
                case measure => simp [intOf]; omega
            · as_aux_lemma =>
                rw [DL.out, if_neg hin, HBK.out] at C1
                clear DL
                have d1 := Q_8.out.cell (i := 1) rfl
                go_wp2_with (((with_reducible refine load_gate (25) (3) ?_); refine wpList_load_mid rfl 25 (.tmp 3) rfl NX 0 rfl BK _ X_9.out.all Try.underlying25 rfl F1.out.i ?_))
                refine (C1.out _).mono ?_
                rintro e w12 ⟨rfl, u12⟩
                have X_13 := Lib.hid (X_9.out.step u12)
                have L_14 := Lib.hid (L_10.out.step u12)
                have Q_15 := Lib.hid (Q_8.out.step u12)
                clear u12 X_9 L_10 Q_8
                clear d1
                go_upto_region 32 with (((with_reducible refine store_gate (25) (3) (153) ?_); refine wpList_store_mid rfl 25 (.tmp 3) (.tmp 153) rfl NX 0 BK.toArray rfl rfl (X_13.out.there ?s1) ?s2 ?s3 ?_))
                case s1 => simp
                case s2 => simpa using F1.out.i
                case s3 => first | exact F1.out.o | exact all_oneCell_toArray F1.out.o
                have X_16 := Lib.hid (X_13.out.setAll BK (rfl))
                have L_17 := Lib.hid (L_14.out.setAllO (Nat.ne_of_lt LT_X_L.out) X_13.out.n 0 BK)
                have Q_18 := Lib.hid (Q_15.out.setAllO (Nat.ne_of_lt LT_X_Q.out) X_13.out.n 0 BK)
                clear X_13 L_14 Q_15
                generalize World.setCells _ _ _ _ = w19 at *
                have d1 := Q_18.out.cell (i := 1) rfl
                by_cases h0 : xn < 0
                · have z1 : ¬ 0 ≤ xn := by omega
                  go_upto_region 67 with (fail)
                  clear d1
                  clear Q_18
                  have nb := NB.out
                  go_wp2_with (first | ((with_reducible refine load_gate (25) (3) ?_); refine wpList_load_mid rfl 25 (.tmp 3) rfl NX 0 rfl BK _ X_16.out.all Try.underlying25 rfl F1.out.i ?_) | ((with_reducible refine load_gate (24) (4) ?_); refine wpList_load_mid rfl 24 (.tmp 4) rfl NL 0 rfl BK _ L_17.out.all Try.underlying24 rfl I24.out ?_))
                  go_roundw
                  case rel => exact ⟨k + 1, b, by omega, by go_num, PB1.out, by rw [HBK.out]; exact X_16.out, by rw [HBK.out]; exact L_17.out⟩
                  case measure => simp [intOf]; omega
                · have z1 : 0 ≤ xn := by omega
                  have z2 : ¬ xn < 16 := by omega
                  go_upto_region 67 with (fail)
                  clear d1
                  clear Q_18
                  have nb := NB.out
                  go_wp2_with (first | ((with_reducible refine load_gate (25) (3) ?_); refine wpList_load_mid rfl 25 (.tmp 3) rfl NX 0 rfl BK _ X_16.out.all Try.underlying25 rfl F1.out.i ?_) | ((with_reducible refine load_gate (24) (4) ?_); refine wpList_load_mid rfl 24 (.tmp 4) rfl NL 0 rfl BK _ L_17.out.all Try.underlying24 rfl I24.out ?_))
                  go_roundw
                  case rel => exact ⟨k + 1, b, by omega, by go_num, PB1.out, by rw [HBK.out]; exact X_16.out, by rw [HBK.out]; exact L_17.out⟩
                  case measure => simp [intOf]; omega
          · have e7 : (kk == 7) = false := beq_false_of_ne hk7
            obtain ⟨x, hx⟩ : ∃ x : Le, (if 0 ≤ xn ∧ xn < 16 then b.getD xn.toNat zeroLe else zeroLe) = x := ⟨_, rfl⟩
            have hgl : getL b xn = if x.on = true then (x, 0) else (zeroLe, 2) := by
              unfold getL
              by_cases hin : 0 ≤ xn ∧ xn < 16
              · rw [if_pos hin] at hx ⊢
                rw [hx]
              · rw [if_neg hin] at hx ⊢
                rw [← hx]; rfl
            have hxin : (∃ i : Nat, xn = (i : Int) ∧ i < 16 ∧ b[i]? = some x) ∨ ((xn < 0 ∨ 16 ≤ xn) ∧ x = zeroLe) := by
              by_cases hin : 0 ≤ xn ∧ xn < 16
              · rw [if_pos hin] at hx
                obtain ⟨i, rfl⟩ := Int.eq_ofNat_of_zero_le hin.1
                rw [Int.toNat_natCast] at hx
                have hi : i < b.length := by rw [PB1.out.l]; omega
                exact .inl ⟨i, rfl, by omega, by rw [← hx, List.getD_eq_getElem?_getD, List.getElem?_eq_getElem hi]; rfl⟩
              · rw [if_neg hin] at hx
                exact .inr ⟨by omega, hx.symm⟩
            have hxok : x.Ok ∧ (x.on = true → 0 ≤ x.too ∧ x.too < 6) := by
              rcases hxin with ⟨i, _, _, hi⟩ | ⟨_, rfl⟩
              · exact ⟨PB1.out.o x (List.mem_of_getElem? hi), PB1.out.t x (List.mem_of_getElem? hi)⟩
              · exact ⟨zeroLe_ok, fun h => by cases h⟩
            clear hx
            obtain ⟨on, fr, p0, too, wr0, at0⟩ := x
            have HGL := Lib.hid hgl
            have HXI := Lib.hid hxin
            have HOK := Lib.hid hxok
            clear hgl hxin hxok
            have S_12 := Lib.hid (Own.new X_9.out.bel #[.bool false, .int .i64 0, .int .i64 0, .int .i64 0, .bool false, .int .i64 0] 23)
            have LT_X_S := Lib.hid (show NX < w11.heap.size from X_9.out.lt)
            have X_13 := Lib.hid (X_9.out.alloc (.cells #[.bool false, .int .i64 0, .int .i64 0, .int .i64 0, .bool false, .int .i64 0] 23))
            have LT_L_S := Lib.hid (show NL < w11.heap.size from L_10.out.lt)
            have L_14 := Lib.hid (L_10.out.alloc (.cells #[.bool false, .int .i64 0, .int .i64 0, .int .i64 0, .bool false, .int .i64 0] 23))
            have LT_Q_S := Lib.hid (show NQ < w11.heap.size from Q_8.out.lt)
            have Q_15 := Lib.hid (Q_8.out.alloc (.cells #[.bool false, .int .i64 0, .int .i64 0, .int .i64 0, .bool false, .int .i64 0] 23))
            clear X_9 L_10 Q_8
            go_upto_region 35 with (fail)
            generalize w11.alloc (.cells #[.bool false, .int .i64 0, .int .i64 0, .int .i64 0, .bool false, .int .i64 0] 23) = w16 at *
            generalize w11.heap.size = NS at *
            have d1 := Q_15.out.cell (i := 1) rfl
            go_cut [174] from 167 to 167 (fun s wx => s = .bool (decide (0 ≤ xn ∧ xn < 16)) ∧ w16 = wx)
            case first =>
              as_aux_lemma =>
                by_cases h1 : 0 ≤ xn
                · by_cases h2 : xn < 16
                  · go_wp2_with fail
                    go_meet
                    exact ⟨by rw [decide_eq_true ⟨h1, h2⟩], rfl⟩
                  · go_wp2_with fail
                    go_meet
                    exact ⟨by rw [decide_eq_false (by omega)], rfl⟩
                · go_wp2_with fail
                  go_meet
                  exact ⟨by rw [decide_eq_false (by omega)], rfl⟩
            obtain ⟨rfl, rfl⟩ := hcut
            go_upto_if 174 with (fail)
            go_cut [] from 167 to 175 (fun wx => Own w NX BK 25 wx ∧ Own w NL BK 24 wx ∧ Own w NQ [.int .u8 (xk : Int), .int .i64 xn, .int .i64 vm, .int .i64 pg, .int .i64 tt, .bool xw] 38 wx ∧ Own w NS [.bool on, .int .i64 fr, .int .i64 p0, .int .i64 too, .bool wr0, .int .i64 at0] 23 wx)
            case first =>
              as_aux_lemma =>
                rcases HXI.out with hin | ⟨hin, hz⟩
                · obtain ⟨i, rfl, hi16, hi⟩ := hin
                  have i0 : 0 ≤ (i : Int) := by omega
                  have i16 : (i : Int) < 16 := by omega
                  rw [decide_eq_true (show 0 ≤ (i : Int) ∧ (i : Int) < 16 from ⟨i0, i16⟩)]
                  have sg : Hid ((BK.drop (i * 6)).take 6 = [.bool on, .int .i64 fr, .int .i64 p0, .int .i64 too, .bool wr0, .int .i64 at0]) := SEG.out i _ hi
                  go_wp2_with (first | ((with_reducible refine load_gate (23) (177) ?_); refine wpList_load_mid rfl 23 (.tmp 177) rfl NL (i * 6) rfl [.bool on, .int .i64 fr, .int .i64 p0, .int .i64 too, .bool wr0, .int .i64 at0] _ (range_of_blk L_14.out.k sg.out) Try.underlying23 rfl size6 ?_) | ((with_reducible refine store_gate (23) (16) (178) ?_); refine wpList_store_mid rfl 23 (.tmp 16) (.tmp 178) rfl NS 0 (List.toArray [.bool on, .int .i64 fr, .int .i64 p0, .int .i64 too, .bool wr0, .int .i64 at0]) rfl rfl (S_12.out.there (by simp)) (by simpa using size6) (by simp [Value.oneCell']) ?_))
                  go_meet
                  exact ⟨X_13.out.setAllO (Ne.symm (Nat.ne_of_lt LT_X_S.out)) S_12.out.n 0 [.bool on, .int .i64 fr, .int .i64 p0, .int .i64 too, .bool wr0, .int .i64 at0], L_14.out.setAllO (Ne.symm (Nat.ne_of_lt LT_L_S.out)) S_12.out.n 0 [.bool on, .int .i64 fr, .int .i64 p0, .int .i64 too, .bool wr0, .int .i64 at0], Q_15.out.setAllO (Ne.symm (Nat.ne_of_lt LT_Q_S.out)) S_12.out.n 0 [.bool on, .int .i64 fr, .int .i64 p0, .int .i64 too, .bool wr0, .int .i64 at0], S_12.out.setAll [.bool on, .int .i64 fr, .int .i64 p0, .int .i64 too, .bool wr0, .int .i64 at0] rfl⟩
                · rw [decide_eq_false (show ¬ (0 ≤ xn ∧ xn < 16) by omega)]
                  cases hz
                  go_wp2_with fail
                  go_meet
                  exact ⟨X_13.out, L_14.out, Q_15.out, S_12.out⟩
            clear d1 X_13 L_14 Q_15 S_12
            obtain ⟨o1, o2, o3, o4⟩ := hcut
            have X_17 := Lib.hid o1
            have L_18 := Lib.hid o2
            have Q_19 := Lib.hid o3
            have S_20 := Lib.hid o4
            clear o1 o2 o3 o4
            have s1 := S_20.out.cell (i := 1) rfl
            have s3 := S_20.out.cell (i := 3) rfl
            go_upto_if 182 with (fail)
            go_cut [17] from 182 to 184 (fun s wx => s = .int .i64 (if kk = 6 then fr else too) ∧ wc = wx)
            case first =>
              as_aux_lemma =>
                by_cases h6 : kk = 6
                · have e6 : (kk == 6) = true := by rw [h6]; rfl
                  have H6 := Lib.hid h6
                  clear h6
                  go_wp2_with fail
                  go_meet
                  exact ⟨by rw [if_pos H6.out], rfl⟩
                · have e6 : (kk == 6) = false := beq_false_of_ne h6
                  go_wp2_with fail
                  go_meet
                  exact ⟨by rw [if_neg h6], rfl⟩
            obtain ⟨rfl, rfl⟩ := hcut
            generalize hOW : (if kk = 6 then fr else too) = ow at *
            have HOW := Lib.hid hOW
            clear hOW s1 s3
            go_upto_block 4 with (fail)
            go_cut [18] from 185 to 216 (fun s wx => s = .int .i64 (wantE kk on (decide (ow = vm)) at0 pok) ∧ wc = wx)
            case first =>
              as_aux_lemma =>
                have s0 := S_20.out.cell (i := 0) rfl
                have s5 := S_20.out.cell (i := 5) rfl
                have d2 := Q_19.out.cell (i := 2) rfl
                cases on with
                | false =>
                  go_wp2_with fail
                  go_meet
                  exact ⟨rfl, rfl⟩
                | true =>
                  by_cases hv : ow = vm
                  · subst hv
                    have v1 : (ow != ow) = false := by simp
                    by_cases h5 : kk = 5
                    · subst h5
                      by_cases ha : at0 < 0
                      · have a1 : decide (at0 < 0) = true := decide_eq_true ha
                        go_wp2_with fail
                        go_meet
                        exact ⟨by simp [wantE, ha], rfl⟩
                      · have a1 : decide (at0 < 0) = false := decide_eq_false ha
                        go_wp2_with fail
                        go_meet
                        exact ⟨by simp [wantE, ha], rfl⟩
                    · have k1 : (kk == 5) = false := beq_false_of_ne h5
                      have k2 : (kk != 5) = true := by rw [bne, k1]; rfl
                      by_cases ha : 0 ≤ at0
                      · have a1 : decide (0 ≤ at0) = true := decide_eq_true ha
                        go_wp2_with fail
                        go_meet
                        exact ⟨by simp [wantE, ha, h5], rfl⟩
                      · have a1 : decide (0 ≤ at0) = false := decide_eq_false ha
                        by_cases h4 : kk < 5
                        · have k3 : decide (kk < 5) = true := decide_eq_true h4
                          cases pok with
                          | false =>
                            go_wp2_with fail
                            go_meet
                            exact ⟨by simp [wantE, ha, h5, h4], rfl⟩
                          | true =>
                            go_wp2_with fail
                            go_meet
                            exact ⟨by simp [wantE, ha, h5, h4], rfl⟩
                        · have k3 : decide (kk < 5) = false := decide_eq_false h4
                          go_wp2_with fail
                          go_meet
                          exact ⟨by simp only [wantE]; simp [h5]; rw [if_neg (by omega), if_neg (fun h => by have := h.1; omega)], rfl⟩
                  · have v1 : (ow != vm) = true := by simp [hv]
                    go_wp2_with fail
                    go_meet
                    exact ⟨by simp [wantE, hv], rfl⟩
            obtain ⟨rfl, rfl⟩ := hcut
            generalize hWE : wantE kk on (decide (ow = vm)) at0 pok = we at *
            have HWE := Lib.hid hWE
            clear hWE
            have C_21 := Lib.hid (Own.newL X_17.out.bel ZC 25)
            have LT_X_C := Lib.hid (show NX < wc.heap.size from X_17.out.lt)
            have X_22 := Lib.hid (X_17.out.alloc (.cells ZC.toArray 25))
            have LT_L_C := Lib.hid (show NL < wc.heap.size from L_18.out.lt)
            have L_23 := Lib.hid (L_18.out.alloc (.cells ZC.toArray 25))
            have LT_Q_C := Lib.hid (show NQ < wc.heap.size from Q_19.out.lt)
            have Q_24 := Lib.hid (Q_19.out.alloc (.cells ZC.toArray 25))
            have LT_S_C := Lib.hid (show NS < wc.heap.size from S_20.out.lt)
            have S_25 := Lib.hid (S_20.out.alloc (.cells ZC.toArray 25))
            go_upto_region 52 with (first | ((with_reducible refine load_gate (25) (3) ?_); refine wpList_load_mid rfl 25 (.tmp 3) rfl NX 0 rfl BK _ X_17.out.all Try.underlying25 rfl F1.out.i ?_) | ((with_reducible refine store_gate (25) (19) (217) ?_); refine wpList_store_mid rfl 25 (.tmp 19) (.tmp 217) rfl wc.heap.size 0 BK.toArray rfl rfl (C_21.out.there ?s1) ?s2 ?s3 ?_))
            case s1 => have h1 := FZ.out.l; have h2 := F1.out.l; simp <;> omega
            case s2 => simpa using F1.out.i
            case s3 => first | exact F1.out.o | exact all_oneCell_toArray F1.out.o
            have C_26 := Lib.hid (C_21.out.setAll BK (by rw [F1.out.l, FZ.out.l]))
            have X_27 := Lib.hid (X_22.out.setAllO (Ne.symm (Nat.ne_of_lt LT_X_C.out)) C_21.out.n 0 BK)
            have L_28 := Lib.hid (L_23.out.setAllO (Ne.symm (Nat.ne_of_lt LT_L_C.out)) C_21.out.n 0 BK)
            have Q_29 := Lib.hid (Q_24.out.setAllO (Ne.symm (Nat.ne_of_lt LT_Q_C.out)) C_21.out.n 0 BK)
            have S_30 := Lib.hid (S_25.out.setAllO (Ne.symm (Nat.ne_of_lt LT_S_C.out)) C_21.out.n 0 BK)
            clear C_21 X_22 L_23 Q_24 S_25
            clear X_17 L_18 Q_19 S_20
            generalize World.setCells _ _ _ _ = w31 at *
            generalize wc.heap.size = NC at *
            go_upto_block 5 with (fail)
            go_cut [20] from 218 to 256 (fun s wx => ∃ (b' : List Le) (on' : Bool) (fr' p' to' : Int) (wr' : Bool) (at' : Int), AR b xn b' ⟨on', fr', p', to', wr', at'⟩ we ∧ s = .int .i64 we ∧ Own w NX BK 25 wx ∧ Own w NL BK 24 wx ∧ Own w NQ [.int .u8 (xk : Int), .int .i64 xn, .int .i64 vm, .int .i64 pg, .int .i64 tt, .bool xw] 38 wx ∧ Own w NS [.bool on', .int .i64 fr', .int .i64 p', .int .i64 to', .bool wr', .int .i64 at'] 23 wx ∧ Own w NC (bookCells b') 25 wx)
            case first =>
              as_aux_lemma =>
                by_cases h5 : kk = 5
                · have e5 : (kk == 5) = true := by rw [h5]; rfl
                  clear e7
                  obtain ⟨b', hL, ar⟩ := ar_leave (kk := kk) (pok := pok) h5 PB1.out HGL.out HXI.out HOW.out HWE.out
                  have C1 := Lib.hid (fun w => leave_calls b xn vm PB1.out.l w)
                  rw [hL] at C1
                  dsimp only at C1
                  rw [HBK.out] at C1
                  have AR1 := Lib.hid ar
                  have F2 := Lib.hid (bookF ar.pb.l)
                  generalize hBN : bookCells b' = BN at *
                  have HBN := Lib.hid hBN
                  clear hBN ar hL HWE HOW HGL HXI h5
                  have d1 := Q_29.out.cell (i := 1) rfl
                  have d2 := Q_29.out.cell (i := 2) rfl
                  go_wp2_with (((with_reducible refine load_gate (25) (3) ?_); refine wpList_load_mid rfl 25 (.tmp 3) rfl NX 0 rfl BK _ X_27.out.all Try.underlying25 rfl F1.out.i ?_))
                  refine (C1.out _).mono ?_
                  rintro e w32 ⟨rfl, u32⟩
                  have X_33 := Lib.hid (X_27.out.step u32)
                  have L_34 := Lib.hid (L_28.out.step u32)
                  have Q_35 := Lib.hid (Q_29.out.step u32)
                  have S_36 := Lib.hid (S_30.out.step u32)
                  have C_37 := Lib.hid (C_26.out.step u32)
                  clear u32 X_27 L_28 Q_29 S_30 C_26
                  clear d1 d2
                  go_upto_region 58 with (((with_reducible refine store_gate (25) (19) (242) ?_); refine wpList_store_mid rfl 25 (.tmp 19) (.tmp 242) rfl NC 0 BN.toArray rfl rfl (C_37.out.there ?s1) ?s2 ?s3 ?_))
                  case s1 => have h1 := F1.out.l; have h2 := F2.out.l; simp <;> omega
                  case s2 => simpa using F2.out.i
                  case s3 => first | exact F2.out.o | exact all_oneCell_toArray F2.out.o
                  have C_38 := Lib.hid (C_37.out.setAll BN (by rw [F2.out.l, F1.out.l]))
                  have X_39 := Lib.hid (X_33.out.setAllO (Ne.symm (Nat.ne_of_lt LT_X_C.out)) C_37.out.n 0 BN)
                  have L_40 := Lib.hid (L_34.out.setAllO (Ne.symm (Nat.ne_of_lt LT_L_C.out)) C_37.out.n 0 BN)
                  have Q_41 := Lib.hid (Q_35.out.setAllO (Ne.symm (Nat.ne_of_lt LT_Q_C.out)) C_37.out.n 0 BN)
                  have S_42 := Lib.hid (S_36.out.setAllO (Ne.symm (Nat.ne_of_lt LT_S_C.out)) C_37.out.n 0 BN)
                  clear C_37 X_33 L_34 Q_35 S_36
                  generalize World.setCells _ _ _ _ = w43 at *
                  have s5 := S_42.out.cell (i := 5) rfl
                  have f5 := S_42.out.fro 5
                  go_wp2_with fail
                  have S_44 := Lib.hid (S_42.out.set 5 (.int .i64 (-1)))
                  have X_45 := Lib.hid (X_39.out.setO (Ne.symm (Nat.ne_of_lt LT_X_S.out)) S_42.out.n 5 (.int .i64 (-1)))
                  have L_46 := Lib.hid (L_40.out.setO (Ne.symm (Nat.ne_of_lt LT_L_S.out)) S_42.out.n 5 (.int .i64 (-1)))
                  have Q_47 := Lib.hid (Q_41.out.setO (Ne.symm (Nat.ne_of_lt LT_Q_S.out)) S_42.out.n 5 (.int .i64 (-1)))
                  have C_48 := Lib.hid (C_38.out.setO (Nat.ne_of_lt LT_S_C.out) S_42.out.n 5 (.int .i64 (-1)))
                  clear S_42 X_39 L_40 Q_41 C_38
                  go_meet
                  exact ⟨b', on, fr, p0, too, wr0, -1, AR1.out, rfl, X_45.out, L_46.out, Q_47.out, S_44.out, by rw [HBN.out]; exact C_48.out⟩
                · by_cases h6 : kk = 6
                  · have e5 : (kk == 5) = false := by rw [h6]; rfl
                    have e6 : (kk == 6) = true := by rw [h6]; rfl
                    clear e7
                    obtain ⟨b', hL, ar⟩ := ar_withdraw (kk := kk) (pok := pok) h6 PB1.out HGL.out HXI.out HOW.out HWE.out
                    have C1 := Lib.hid (fun w => withdraw_calls b xn vm PB1.out.l w)
                    rw [hL] at C1
                    dsimp only at C1
                    rw [HBK.out] at C1
                    have AR1 := Lib.hid ar
                    have F2 := Lib.hid (bookF ar.pb.l)
                    generalize hBN : bookCells b' = BN at *
                    have HBN := Lib.hid hBN
                    clear hBN ar hL HWE HOW HGL HXI h5 h6
                    have d1 := Q_29.out.cell (i := 1) rfl
                    have d2 := Q_29.out.cell (i := 2) rfl
                    go_wp2_with (((with_reducible refine load_gate (25) (3) ?_); refine wpList_load_mid rfl 25 (.tmp 3) rfl NX 0 rfl BK _ X_27.out.all Try.underlying25 rfl F1.out.i ?_))
                    refine (C1.out _).mono ?_
                    rintro e w32 ⟨rfl, u32⟩
                    have X_33 := Lib.hid (X_27.out.step u32)
                    have L_34 := Lib.hid (L_28.out.step u32)
                    have Q_35 := Lib.hid (Q_29.out.step u32)
                    have S_36 := Lib.hid (S_30.out.step u32)
                    have C_37 := Lib.hid (C_26.out.step u32)
                    clear u32 X_27 L_28 Q_29 S_30 C_26
                    clear d1 d2
                    go_upto_region 61 with (((with_reducible refine store_gate (25) (19) (254) ?_); refine wpList_store_mid rfl 25 (.tmp 19) (.tmp 254) rfl NC 0 BN.toArray rfl rfl (C_37.out.there ?s1) ?s2 ?s3 ?_))
                    case s1 => have h1 := F1.out.l; have h2 := F2.out.l; simp <;> omega
                    case s2 => simpa using F2.out.i
                    case s3 => first | exact F2.out.o | exact all_oneCell_toArray F2.out.o
                    have C_38 := Lib.hid (C_37.out.setAll BN (by rw [F2.out.l, F1.out.l]))
                    have X_39 := Lib.hid (X_33.out.setAllO (Ne.symm (Nat.ne_of_lt LT_X_C.out)) C_37.out.n 0 BN)
                    have L_40 := Lib.hid (L_34.out.setAllO (Ne.symm (Nat.ne_of_lt LT_L_C.out)) C_37.out.n 0 BN)
                    have Q_41 := Lib.hid (Q_35.out.setAllO (Ne.symm (Nat.ne_of_lt LT_Q_C.out)) C_37.out.n 0 BN)
                    have S_42 := Lib.hid (S_36.out.setAllO (Ne.symm (Nat.ne_of_lt LT_S_C.out)) C_37.out.n 0 BN)
                    clear C_37 X_33 L_34 Q_35 S_36
                    generalize World.setCells _ _ _ _ = w43 at *
                    go_wp2_with (first | ((with_reducible refine build_gate (256) ?_); refine wpList_buildTo rfl 23 _ rfl (some 256) rfl #[.bool false, .int .i64 0, .int .i64 0, .int .i64 0, .bool false, .int .i64 0] (by rw [Array.toList_map]; exact built_le0) ?_) | ((with_reducible refine store_gate (23) (16) (256) ?_); refine wpList_store_mid rfl 23 (.tmp 16) (.tmp 256) rfl NS 0 #[.bool false, .int .i64 0, .int .i64 0, .int .i64 0, .bool false, .int .i64 0] rfl rfl (S_42.out.there (by simp)) (by simpa using size6) (by simp [Value.oneCell']) ?_))
                    have S_44 := Lib.hid (S_42.out.setAll [.bool false, .int .i64 0, .int .i64 0, .int .i64 0, .bool false, .int .i64 0] (rfl))
                    have X_45 := Lib.hid (X_39.out.setAllO (Ne.symm (Nat.ne_of_lt LT_X_S.out)) S_42.out.n 0 [.bool false, .int .i64 0, .int .i64 0, .int .i64 0, .bool false, .int .i64 0])
                    have L_46 := Lib.hid (L_40.out.setAllO (Ne.symm (Nat.ne_of_lt LT_L_S.out)) S_42.out.n 0 [.bool false, .int .i64 0, .int .i64 0, .int .i64 0, .bool false, .int .i64 0])
                    have Q_47 := Lib.hid (Q_41.out.setAllO (Ne.symm (Nat.ne_of_lt LT_Q_S.out)) S_42.out.n 0 [.bool false, .int .i64 0, .int .i64 0, .int .i64 0, .bool false, .int .i64 0])
                    have C_48 := Lib.hid (C_38.out.setAllO (Nat.ne_of_lt LT_S_C.out) S_42.out.n 0 [.bool false, .int .i64 0, .int .i64 0, .int .i64 0, .bool false, .int .i64 0])
                    clear S_42 X_39 L_40 Q_41 C_38
                    go_meet
                    exact ⟨b', false, 0, 0, 0, false, 0, AR1.out, rfl, X_45.out, L_46.out, Q_47.out, S_44.out, by rw [HBN.out]; exact C_48.out⟩
                  · have h34 : kk < 5 := by omega
                    have e5 : (kk == 5) = false := beq_false_of_ne h5
                    have e6 : (kk == 6) = false := beq_false_of_ne h6
                    clear e7
                    obtain ⟨b', hL, ar⟩ := ar_accept (kk := kk) (pok := pok) (pg := pg) h34 HP.out PB1.out HGL.out HXI.out HOW.out HWE.out
                    have C1 := Lib.hid (fun w => accept_calls b xn vm pg PB1.out.l w)
                    rw [hL] at C1
                    dsimp only at C1
                    rw [HBK.out] at C1
                    have AR1 := Lib.hid ar
                    have F2 := Lib.hid (bookF ar.pb.l)
                    generalize hBN : bookCells b' = BN at *
                    have HBN := Lib.hid hBN
                    clear hBN ar hL HWE HOW HGL HXI h5 h6 h34
                    have d1 := Q_29.out.cell (i := 1) rfl
                    have d2 := Q_29.out.cell (i := 2) rfl
                    have d3 := Q_29.out.cell (i := 3) rfl
                    go_wp2_with (((with_reducible refine load_gate (25) (3) ?_); refine wpList_load_mid rfl 25 (.tmp 3) rfl NX 0 rfl BK _ X_27.out.all Try.underlying25 rfl F1.out.i ?_))
                    refine (C1.out _).mono ?_
                    rintro e w32 ⟨rfl, u32⟩
                    have X_33 := Lib.hid (X_27.out.step u32)
                    have L_34 := Lib.hid (L_28.out.step u32)
                    have Q_35 := Lib.hid (Q_29.out.step u32)
                    have S_36 := Lib.hid (S_30.out.step u32)
                    have C_37 := Lib.hid (C_26.out.step u32)
                    clear u32 X_27 L_28 Q_29 S_30 C_26
                    clear d1 d2 d3
                    go_upto_region 55 with (((with_reducible refine store_gate (25) (19) (228) ?_); refine wpList_store_mid rfl 25 (.tmp 19) (.tmp 228) rfl NC 0 BN.toArray rfl rfl (C_37.out.there ?s1) ?s2 ?s3 ?_))
                    case s1 => have h1 := F1.out.l; have h2 := F2.out.l; simp <;> omega
                    case s2 => simpa using F2.out.i
                    case s3 => first | exact F2.out.o | exact all_oneCell_toArray F2.out.o
                    have C_38 := Lib.hid (C_37.out.setAll BN (by rw [F2.out.l, F1.out.l]))
                    have X_39 := Lib.hid (X_33.out.setAllO (Ne.symm (Nat.ne_of_lt LT_X_C.out)) C_37.out.n 0 BN)
                    have L_40 := Lib.hid (L_34.out.setAllO (Ne.symm (Nat.ne_of_lt LT_L_C.out)) C_37.out.n 0 BN)
                    have Q_41 := Lib.hid (Q_35.out.setAllO (Ne.symm (Nat.ne_of_lt LT_Q_C.out)) C_37.out.n 0 BN)
                    have S_42 := Lib.hid (S_36.out.setAllO (Ne.symm (Nat.ne_of_lt LT_S_C.out)) C_37.out.n 0 BN)
                    clear C_37 X_33 L_34 Q_35 S_36
                    generalize World.setCells _ _ _ _ = w43 at *
                    have s5 := S_42.out.cell (i := 5) rfl
                    have f5 := S_42.out.fro 5
                    have d3 := Q_41.out.cell (i := 3) rfl
                    go_wp2_with fail
                    have S_44 := Lib.hid (S_42.out.set 5 (.int .i64 pg))
                    have X_45 := Lib.hid (X_39.out.setO (Ne.symm (Nat.ne_of_lt LT_X_S.out)) S_42.out.n 5 (.int .i64 pg))
                    have L_46 := Lib.hid (L_40.out.setO (Ne.symm (Nat.ne_of_lt LT_L_S.out)) S_42.out.n 5 (.int .i64 pg))
                    have Q_47 := Lib.hid (Q_41.out.setO (Ne.symm (Nat.ne_of_lt LT_Q_S.out)) S_42.out.n 5 (.int .i64 pg))
                    have C_48 := Lib.hid (C_38.out.setO (Nat.ne_of_lt LT_S_C.out) S_42.out.n 5 (.int .i64 pg))
                    clear S_42 X_39 L_40 Q_41 C_38
                    go_meet
                    exact ⟨b', on, fr, p0, too, wr0, pg, AR1.out, rfl, X_45.out, L_46.out, Q_47.out, S_44.out, by rw [HBN.out]; exact C_48.out⟩
            clear X_27 L_28 Q_29 S_30 C_26
            obtain ⟨b', on', fr', p', to', wr', at', ar, rfl, o1, o2, o3, o4, o5⟩ := hcut
            have X_32 := Lib.hid o1
            have L_33 := Lib.hid o2
            have Q_34 := Lib.hid o3
            have S_35 := Lib.hid o4
            have C_36 := Lib.hid o5
            clear o1 o2 o3 o4 o5 HWE HOW HGL HXI HOK
            by_cases hw0 : we = 0
            · as_aux_lemma =>
                subst hw0
                obtain ⟨i, rfl, hi16, rfl⟩ := ar.ok rfl
                have i0 : 0 ≤ (i : Int) := by omega
                have i16 : (i : Int) < 16 := by omega
                have PB2 := Lib.hid ar.pb
                have F2 := Lib.hid (bookF PB2.out.l)
                have I2 := Lib.hid (show (Try.prog.info? 24).map (·.size) = some (bookCells (b.set i ⟨on', fr', p', to', wr', at'⟩)).length by rw [bookCells_length, PB2.out.l, size96A])
                have NB2 := Lib.hid (fun W => neq_book PB2.out W)
                have SETI := Lib.hid (SET.out i hi16 ⟨on', fr', p', to', wr', at'⟩)
                generalize hBN : bookCells (b.set i ⟨on', fr', p', to', wr', at'⟩) = BN at *
                have HBN := Lib.hid hBN
                clear hBN ar
                go_upto_region 65 with (first | ((with_reducible refine load_gate (25) (19) ?_); refine wpList_load_mid rfl 25 (.tmp 19) rfl NC 0 rfl BN _ C_36.out.all Try.underlying25 rfl F2.out.i ?_) | ((with_reducible refine store_gate (25) (3) (269) ?_); refine wpList_store_mid rfl 25 (.tmp 3) (.tmp 269) rfl NX 0 BN.toArray rfl rfl (X_32.out.there ?s1) ?s2 ?s3 ?_))
                case s1 => have h1 := F1.out.l; have h2 := F2.out.l; simp <;> omega
                case s2 => simpa using F2.out.i
                case s3 => first | exact F2.out.o | exact all_oneCell_toArray F2.out.o
                have X_37 := Lib.hid (X_32.out.setAll BN (by rw [F2.out.l, F1.out.l]))
                have L_38 := Lib.hid (L_33.out.setAllO (Nat.ne_of_lt LT_X_L.out) X_32.out.n 0 BN)
                have Q_39 := Lib.hid (Q_34.out.setAllO (Nat.ne_of_lt LT_X_Q.out) X_32.out.n 0 BN)
                have S_40 := Lib.hid (S_35.out.setAllO (Nat.ne_of_lt LT_X_S.out) X_32.out.n 0 BN)
                have C_41 := Lib.hid (C_36.out.setAllO (Nat.ne_of_lt LT_X_C.out) X_32.out.n 0 BN)
                clear X_32 L_33 Q_34 S_35 C_36
                generalize World.setCells _ _ _ _ = w42 at *
                clear C_41
                have d1 := Q_39.out.cell (i := 1) rfl
                have hth : Hid (w42.there NL (i * 6) 6) := there_of_blk L_38.out.k (by have := F1.out.l; omega)
                go_upto_region 67 with (first | ((with_reducible refine load_gate (23) (16) ?_); refine wpList_load_mid rfl 23 (.tmp 16) rfl NS 0 rfl [.bool on', .int .i64 fr', .int .i64 p', .int .i64 to', .bool wr', .int .i64 at'] _ S_40.out.all Try.underlying23 rfl size6 ?_) | ((with_reducible refine store_gate (23) (275) (274) ?_); refine wpList_store_mid rfl 23 (.tmp 275) (.tmp 274) rfl NL (i * 6) ([.bool on', .int .i64 fr', .int .i64 p', .int .i64 to', .bool wr', .int .i64 at']).toArray rfl rfl hth.out (by simpa using size6) (by simp [Value.oneCell']) ?_))
                have L_43 := Lib.hid (L_38.out.setSeg (i * 6) ([.bool on', .int .i64 fr', .int .i64 p', .int .i64 to', .bool wr', .int .i64 at']) (by have := F1.out.l; simp only [List.length_cons, List.length_nil]; omega))
                rw [show BK.take (i * 6) ++ [.bool on', .int .i64 fr', .int .i64 p', .int .i64 to', .bool wr', .int .i64 at'] ++ BK.drop (i * 6 + ([.bool on', .int .i64 fr', .int .i64 p', .int .i64 to', .bool wr', .int .i64 at'] : List Value).length) = BN from SETI.out] at L_43
                have X_44 := Lib.hid (X_37.out.setAllO (Ne.symm (Nat.ne_of_lt LT_X_L.out)) L_38.out.n (i * 6) ([.bool on', .int .i64 fr', .int .i64 p', .int .i64 to', .bool wr', .int .i64 at']))
                have Q_45 := Lib.hid (Q_39.out.setAllO (Nat.ne_of_lt LT_L_Q.out) L_38.out.n (i * 6) ([.bool on', .int .i64 fr', .int .i64 p', .int .i64 to', .bool wr', .int .i64 at']))
                have S_46 := Lib.hid (S_40.out.setAllO (Nat.ne_of_lt LT_L_S.out) L_38.out.n (i * 6) ([.bool on', .int .i64 fr', .int .i64 p', .int .i64 to', .bool wr', .int .i64 at']))
                clear L_38 X_37 Q_39 S_40
                generalize World.setCells _ _ _ _ = w47 at *
                clear d1
                clear Q_45
                clear S_46
                have nb := NB2.out
                go_wp2_with (first | ((with_reducible refine load_gate (25) (3) ?_); refine wpList_load_mid rfl 25 (.tmp 3) rfl NX 0 rfl BN _ X_44.out.all Try.underlying25 rfl F2.out.i ?_) | ((with_reducible refine load_gate (24) (4) ?_); refine wpList_load_mid rfl 24 (.tmp 4) rfl NL 0 rfl BN _ L_43.out.all Try.underlying24 rfl I2.out ?_))
                go_roundw
                case rel => exact ⟨k + 1, (b.set i ⟨on', fr', p', to', wr', at'⟩), by omega, by go_num, PB2.out, by rw [HBN.out]; exact X_44.out, by rw [HBN.out]; exact L_43.out⟩
                case measure => simp [intOf]; omega
            · as_aux_lemma =>
                have n1 : (we != 0) = true := by simp [hw0]
                have n2 : (we == 0) = false := beq_false_of_ne hw0
                have n3 : (we != we) = false := by simp
                obtain rfl := ar.no hw0
                have nb := NB.out
                rw [HBK.out] at C_36
                clear ar hw0
                go_upto_region 65 with (first | ((with_reducible refine load_gate (25) (19) ?_); refine wpList_load_mid rfl 25 (.tmp 19) rfl NC 0 rfl BK _ C_36.out.all Try.underlying25 rfl F1.out.i ?_) | ((with_reducible refine load_gate (25) (19) ?_); refine wpList_load_w (by rfl) 25 (.tmp 19) rfl NC 0 rfl BK _ C_36.out.all Try.underlying25 rfl F1.out.i ?_) | ((with_reducible refine load_gate (25) (3) ?_); refine wpList_load_w (by rfl) 25 (.tmp 3) rfl NX 0 rfl BK _ X_32.out.all Try.underlying25 rfl F1.out.i ?_) | ((with_reducible refine store_gate (25) (3) (269) ?_); refine wpList_store_mid rfl 25 (.tmp 3) (.tmp 269) rfl NX 0 BK.toArray rfl rfl (X_32.out.there ?s1) ?s2 ?s3 ?_))
                case s1 => simp
                case s2 => simpa using F1.out.i
                case s3 => first | exact F1.out.o | exact all_oneCell_toArray F1.out.o
                have X_37 := Lib.hid (X_32.out.setAll BK (rfl))
                have L_38 := Lib.hid (L_33.out.setAllO (Nat.ne_of_lt LT_X_L.out) X_32.out.n 0 BK)
                have Q_39 := Lib.hid (Q_34.out.setAllO (Nat.ne_of_lt LT_X_Q.out) X_32.out.n 0 BK)
                have S_40 := Lib.hid (S_35.out.setAllO (Nat.ne_of_lt LT_X_S.out) X_32.out.n 0 BK)
                have C_41 := Lib.hid (C_36.out.setAllO (Nat.ne_of_lt LT_X_C.out) X_32.out.n 0 BK)
                clear X_32 L_33 Q_34 S_35 C_36
                generalize World.setCells _ _ _ _ = w42 at *
                clear C_41
                clear Q_39
                clear S_40
                go_upto_region 67 with (fail)
                clear nb
                have nb := NB.out
                go_wp2_with (first | ((with_reducible refine load_gate (25) (3) ?_); refine wpList_load_mid rfl 25 (.tmp 3) rfl NX 0 rfl BK _ X_37.out.all Try.underlying25 rfl F1.out.i ?_) | ((with_reducible refine load_gate (24) (4) ?_); refine wpList_load_mid rfl 24 (.tmp 4) rfl NL 0 rfl BK _ L_38.out.all Try.underlying24 rfl I24.out ?_))
                go_roundw
                case rel => exact ⟨k + 1, b', by omega, by go_num, PB1.out, by rw [HBK.out]; exact X_37.out, by rw [HBK.out]; exact L_38.out⟩
                case measure => simp [intOf]; omega
      · have hki : ¬ (k : Int) < (segs.length : Int) := by omega
        have PBX := Lib.hid X0.out.bel
        clear X0 L0 HF HA PB1 FZ HZC
        go_wp2
        first | exact PBX.out | (go_ret; exact ⟨rfl, PBX.out⟩)
end Go.Proofs.Ytlbphkeiapnigaa.Walks
