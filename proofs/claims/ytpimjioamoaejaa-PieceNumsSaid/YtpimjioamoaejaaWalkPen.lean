/- Walks through the functions of the statement, and the statement over them: each contract says what the call answers and that nothing else changes. -/
import Derived.Test.YtpimjioamoaejaaProg
import Derived.Laws.BytesString
import Derived.Test.YtpimjioamoaejaaBits
import Derived.Test.YtpimjioamoaejaaHeap
import Derived.Test.YtpimjioamoaejaaAid
import Derived.Lib.Hide
import Derived.Test.YtpimjioamoaejaaArr
import Derived.Test.YtpimjioamoaejaaEql
import Derived.Test.YtpimjioamoaejaaWalkSums
import Derived.Test.YtpimjioamoaejaaWalkApp
import Derived.Test.YtpimjioamoaejaaWalkEye
import Derived.WalkKit
import Derived.WalkSpells
import Derived.WalkLawsBesides
import Derived.Deep.QuietTactic
import Derived.BigQuiet
import Derived.Deep.RegionHeld3
import Derived.Deep.DeepCutAuto
import Derived.Deep.CutBlock
import Derived.Lib.SlBytesConst
import Derived.StillTailTactics
import Derived.Laws.MakeOwn
import Derived.Deep.AppendLies
import Derived.Laws.CopyOwn
import Derived.Maps.AppendAt
import Derived.Deep.Upon
import Derived.Deep.AppendSrc
import Derived.RegionTactic
import Derived.Great.Walk
import Derived.Deep.RegionLaw
namespace Go.Proofs.Ytpimjioamoaejaa.Walks
set_option linter.unusedVariables false
set_option linter.unusedSimpArgs false
open Go.RowKit Go.Proofs.Ytpimjioamoaejaa.Bits Go.Proofs.Ytpimjioamoaejaa.Heap Go.Proofs.Ytpimjioamoaejaa.Aid Go.Proofs.Ytpimjioamoaejaa.Arr Go.Proofs.Ytpimjioamoaejaa.Eql

theorem build_gate {P : Program} {ops : Array Oper} {Q : Exit → Act → World → Prop} {rest : List Oper} {a : Act} {w : World} {t ty : TypeId} {parts : Array (Nat × Operand)} {pos : String} {aft : Array Edge} {g : Option (Nat × Bool)} (n : Tmp)
    (h : wpList P ops Q (⟨some n, .build t parts, ty, pos, aft, g⟩ :: rest) a w) : wpList P ops Q (⟨some n, .build t parts, ty, pos, aft, g⟩ :: rest) a w := h
theorem bslice_gate {P : Program} {ops : Array Oper} {Q : Exit → Act → World → Prop} {rest : List Oper} {a : Act} {w : World} {t ty : TypeId} {k : Nat} {parts : Array (Nat × Operand)} {pos : String} {aft : Array Edge} {g : Option (Nat × Bool)} (n : Tmp)
    (h : wpList P ops Q (⟨some n, .buildSlice t k parts, ty, pos, aft, g⟩ :: rest) a w) : wpList P ops Q (⟨some n, .buildSlice t k parts, ty, pos, aft, g⟩ :: rest) a w := h
theorem copy_gate {P : Program} {ops : Array Oper} {Q : Exit → Act → World → Prop} {rest : List Oper} {a : Act} {w : World} {t : TypeId} {args : Array Operand} {ats : Array TypeId} {pos : String} {aft : Array Edge} {g : Option (Nat × Bool)} (n : Tmp)
    (h : wpList P ops Q (⟨some n, .call { callee := .builtin .copy, args := args, argTypes := ats }, t, pos, aft, g⟩ :: rest) a w) : wpList P ops Q (⟨some n, .call { callee := .builtin .copy, args := args, argTypes := ats }, t, pos, aft, g⟩ :: rest) a w := h
/-- A quiet call behind quiet regions. -/
theorem quiet_add_left {P : Program} {f : FuncId} {args : Array Value} {w : World} {a n : Nat} {v : Value}
    (h : Calls P f args (w.drewN (a + n)) fun e w' => e = .returned v ∧ w.drewN (a + n) = w') :
    Calls P f args (w.drewN (a + n)) fun e w'' => e = .returned v ∧ ∃ m, w'' = w.drewN (a + m) :=
  h.mono fun _ _ ⟨he, hm⟩ => ⟨he, n, hm.symm⟩
theorem quiet_left {P : Program} {f : FuncId} {args : Array Value} {w : World} {n : Nat} {v : Value}
    (h : Calls P f args (w.drewN n) fun e w' => e = .returned v ∧ w.drewN n = w') : Calls P f args (w.drewN n) fun e w'' => e = .returned v ∧ ∃ m, w'' = w.drewN m :=
  h.mono fun _ _ ⟨he, hm⟩ => ⟨he, n, hm.symm⟩
theorem quiet_add {P : Program} {f : FuncId} {args : Array Value} {w : World} {a n : Nat} {v : Value}
    (h : Calls P f args (w.drewN (a + n)) fun e w' => e = .returned v ∧ ∃ m, w' = (w.drewN (a + n)).drewN m) :
    Calls P f args (w.drewN (a + n)) fun e w'' => e = .returned v ∧ ∃ m, w'' = w.drewN (a + m) :=
  h.mono fun _ _ ⟨he, m, hm⟩ => ⟨he, n + m, by rw [hm, World.drewN_drewN, Nat.add_assoc]⟩
/-- A number as bytes of seven bits, the lowest first. -/
def numE (n : Nat) : List Nat := if h : n < 128 then [n] else (n % 128 + 128) :: numE (n / 128)
termination_by n
decreasing_by omega
theorem numE_small {n : Nat} (h : n < 128) : numE n = [n] := by rw [numE, dif_pos h]
theorem numE_big {n : Nat} (h : ¬ n < 128) : numE n = (n % 128 + 128) :: numE (n / 128) := by rw [numE, dif_neg h]
theorem numE_lt : ∀ (k n : Nat), n ≤ k → ∀ x ∈ numE n, x < 256 := by
  intro k
  induction k with
  | zero => intro n hn x hx; rw [numE_small (by omega)] at hx; rw [List.mem_singleton] at hx; omega
  | succ k ih =>
    intro n hn x hx
    by_cases h : n < 128
    · rw [numE_small h, List.mem_singleton] at hx; omega
    · rw [numE_big h] at hx
      rcases List.mem_cons.1 hx with h1 | h1
      · omega
      · exact ih (n / 128) (by omega) x h1
theorem numE_pos (n : Nat) : 0 < (numE n).length := by
  by_cases h : n < 128
  · rw [numE_small h]; simp
  · rw [numE_big h]; simp
theorem pow_le9 {n i : Nat} (h : n * 128 ^ i < 2 ^ 64) (hn : 128 ≤ n) : i + 1 ≤ 9 := by
  rcases Nat.lt_or_ge i 9 with h1 | h1
  · omega
  · have h2 : (128 : Nat) ^ 9 ≤ 128 ^ i := Nat.pow_le_pow_right (by omega) h1
    have h3 : 128 * 128 ^ 9 ≤ n * 128 ^ i := Nat.mul_le_mul hn h2
    have h4 : (128 : Nat) * 128 ^ 9 = 2 ^ 70 := by decide
    omega
/-- A number's bytes are read again. -/
theorem numA_enc : ∀ (k n i : Nat) (rest : List Nat), n ≤ k → n * 128 ^ i < 2 ^ 64 → i ≤ 9 → (0 < i → 0 < n) → numA i (numE n ++ rest) = some (n, (numE n).length) := by
  intro k
  induction k with
  | zero =>
    intro n i rest hk hn hi hp
    have : n = 0 := by omega
    subst this
    have : i = 0 := by omega
    subst this
    rw [numE_small (by omega)]
    simp [numA, stopB]
  | succ k ih =>
    intro n i rest hk hn hi hp
    by_cases h : n < 128
    · rw [numE_small h]
      have hs : ¬ stopB i n := by
        unfold stopB
        rintro (h1 | ⟨h1, h2⟩ | ⟨h1, h2⟩)
        · omega
        · subst h1
          have : (128 : Nat) ^ 9 = 2 ^ 63 := by decide
          rw [this] at hn
          omega
        · have := hp h1; omega
      simp [numA, hs, h]
    · rw [numE_big h]
      have h9 := pow_le9 hn (by omega)
      have hs : ¬ stopB i (n % 128 + 128) := by
        unfold stopB
        rintro (h1 | ⟨h1, h2⟩ | ⟨h1, h2⟩) <;> omega
      have hm : n / 128 * 128 ^ (i + 1) < 2 ^ 64 := by
        refine Nat.lt_of_le_of_lt ?_ hn
        rw [Nat.pow_succ, Nat.mul_comm (128 ^ i) 128, ← Nat.mul_assoc]
        exact Nat.mul_le_mul_right _ (Nat.div_mul_le_self n 128)
      have hr := ih (n / 128) (i + 1) rest (by omega) hm (by omega) (fun _ => by omega)
      rw [List.cons_append, numA, if_neg hs, if_neg (by omega), hr]
      simp only [Option.map_some, List.length_cons]
      congr 1
      ext <;> simp <;> omega
/-- Of a number that is cut short nothing is read. -/
theorem numA_cut : ∀ (k n i j : Nat), n ≤ k → j < (numE n).length → numA i ((numE n).take j) = none := by
  intro k
  induction k with
  | zero =>
    intro n i j hk hj
    rw [numE_small (by omega)] at hj ⊢
    have : j = 0 := by simpa using hj
    subst this
    simp [numA]
  | succ k ih =>
    intro n i j hk hj
    by_cases h : n < 128
    · rw [numE_small h] at hj ⊢
      have : j = 0 := by simpa using hj
      subst this
      simp [numA]
    · rw [numE_big h] at hj ⊢
      cases j with
      | zero => simp [numA]
      | succ j =>
        rw [List.length_cons] at hj
        have hr := ih (n / 128) (i + 1) j (by omega) (by omega)
        rw [List.take_succ_cons, numA]
        split
        · rfl
        · rw [if_neg (by omega), hr]; rfl
/-- A pen of the call's own: its struct, the bytes that it has written. -/
structure Pn (w0 : World) (e : Nat) (v : Value) (l : List Nat) (W : World) : Prop where
  bel : Below w0.heap.size w0 W
  n : w0.heap.size ≤ e
  c : Blk W e [v] 46
  r : W.ownsRow (e + 1) 5 1 v l.length (l.map enc8)
theorem Pn.step {w0 W W' : World} {e : Nat} {v : Value} {l : List Nat} (h : Pn w0 e v l W) (b : Below W.heap.size W W') : Pn w0 e v l W' := ⟨h.bel.trans (b.mono h.bel.size), h.n, h.c.below b h.c.lt, sl_below h.r b⟩
/-- What a pen may turn. -/
def PnS (e : Nat) (v : Value) (i : Nat) : Prop := i = e ∨ v.ownBlock = some i
structure PenK (e : Nat) (v v' : Value) (W W' : World) : Prop where
  k : Keep (PnS e v) W W'
  o : ∀ g, v'.ownBlock = some g → v.ownBlock = some g ∨ W.heap.size ≤ g
theorem PenK.refl (e : Nat) (v : Value) (W : World) : PenK e v v W W := ⟨Keep.refl _ _, fun g h => .inl h⟩
theorem PenK.trans {e : Nat} {v v' v'' : Value} {W W' W'' : World} (h : PenK e v v' W W') (k : PenK e v' v'' W' W'') : PenK e v v'' W W'' :=
  ⟨h.k.step k.k (fun i hi hs => by
    rcases hs with hs | hs
    · exact .inl hs
    · rcases h.o i hs with h1 | h1
      · exact .inr h1
      · omega), fun g hg => by
    rcases k.o g hg with h1 | h1
    · exact h.o g h1
    · exact .inr (Nat.le_trans h.k.size h1)⟩
theorem PenK.below {e : Nat} {v : Value} {W W' : World} (h : Below W.heap.size W W') : PenK e v v W W' := ⟨Keep.of_below h, fun g h => .inl h⟩
/-- Behind an append, and the store of what came of it. -/
theorem Pn.grow {w0 W W1 W2 : World} {e : Nat} {v v' : Value} {l s : List Nat} (h : Pn w0 e v l W) (b : Below W.heap.size W W1) (hr : W2.ownsRow (e + 1) 5 1 v' (l.length + s.length) (l.map enc8 ++ s.map enc8)) (hg : W1.grownBy W2 v.ownBlock) (ho : v'.ownBlock = v.ownBlock ∨ v'.ownBlock = some W1.heap.size) :
    Pn w0 e v' (l ++ s) (W2.setCell ⟨e, 0, none⟩ v') ∧ PenK e v v' W (W2.setCell ⟨e, 0, none⟩ v') := by
  have h1 := h.step b
  have hk := keep_grown hg
  have hge := own_ge h1.r
  have hge' := own_ge hr
  have hne : ¬ (v.ownBlock = some e) := fun q => by have := hge e q; omega
  have ks : Keep (fun i => i = e) W2 (W2.setCell ⟨e, 0, none⟩ v') := Keep.setCell (S := fun i => i = e) (Keep.refl _ W2) (p := ⟨e, 0, none⟩) (fun _ => rfl) v'
  refine ⟨⟨?_, h.n, ?_, ?_⟩, ⟨?_, ?_⟩⟩
  · exact Keep.belowB (Keep.belowB h1.bel hk h1.bel.size (fun i hi q => by have := hge i q; have := h.n; omega)) ks (Nat.le_trans h1.bel.size hk.size) (fun i hi q => by have := h.n; omega)
  · exact (h1.c.keep hk hne).set 0 v'
  · rw [List.length_append, List.map_append]
    exact sl_keep hr ks (fun g hg q => by have := hge' g hg; omega)
  · exact ((Keep.of_below (S := PnS e v) b).trans (hk.mono fun i _ q => .inr q)).trans (ks.mono fun i _ q => .inl q)
  · intro g hg
    rcases ho with h2 | h2
    · rw [h2] at hg; exact .inl hg
    · rw [h2] at hg
      have : W1.heap.size = g := by injection hg
      have := b.size
      exact .inr (by omega)
def PenP (w0 : World) (e : Nat) (v : Value) (l : List Nat) (W : World) (en : Ending) (W' : World) : Prop := ∃ v', en = .returned (.pointer (some ⟨e, 0, none⟩)) ∧ Pn w0 e v' l W' ∧ PenK e v v' W W'
def wordsE (ws : List Nat) : List Nat := ws.flatMap (leB 8)
theorem wordsE_len (ws : List Nat) : (wordsE ws).length = 8 * ws.length := by
  unfold wordsE
  induction ws with
  | nil => rfl
  | cons x r ih => rw [List.flatMap_cons, List.length_append, leB_length, ih, List.length_cons]; omega
theorem wordsE_snoc (ws : List Nat) (k : Nat) (hk : k < ws.length) : wordsE (ws.take (k + 1)) = wordsE (ws.take k) ++ leB 8 ws[k] := by
  unfold wordsE
  rw [List.take_succ_eq_append_getElem hk, List.flatMap_append]
  simp
theorem row_bytes8 (w : World) (v : Nat) : Row (w.alloc (.cells ((leB 8 v).map enc8).toArray 5)) enc8 (.slice (some ⟨w.heap.size, 0, none⟩) 8 8) (leB 8 v) := by
  have h := Row.of_blk (Blk.new w ((leB 8 v).map enc8).toArray 5) (enc := enc8) (l := leB 8 v)
  rw [leB_length] at h
  exact h
set_option maxHeartbeats 4000000 in
theorem words_calls {w0 W : World} {e : Nat} {v : Value} {l : List Nat} (h : Pn w0 e v l W) (sv : Value) (ws : List Nat) (hr : ∀ W', Keep (PnS e v) W W' → Row W' enc64 sv ws) (hn : ws.length ≤ 100) (hl : l.length ≤ 100000) :
    Calls Try.prog 18 #[.pointer (some ⟨e, 0, none⟩), sv] W (PenP w0 e v (l ++ wordsE ws) W) := by
  have RS := Lib.hid hr
  obtain ⟨sa, sc, hsv⟩ := (hr W (Keep.refl _ _)).form
  subst hsv
  have hn1 : (ws.length : Int) ≤ 100 := by omega
  obtain ⟨ii, hii, hz, hs, hb⟩ := byte_info
  have HI := Lib.hid hii
  have HZ := Lib.hid hz
  have HSz := Lib.hid hs
  have HBy := Lib.hid hb
  have HN := Lib.hid hn
  have HL := Lib.hid hl
  have P0 := Lib.hid h
  clear hr hii hz hs hb h hn hl
  go_enter Try.func18, Try.ntmps18
  go_upto_region 2 with (fail)
  go_loopw [9] (fun iv wx => ∃ (k : Nat) (v' : Value), k ≤ ws.length ∧ iv = .int .i64 k ∧ Pn w0 e v' (l ++ wordsE (ws.take k)) wx ∧ PenK e v v' W wx) (fun iv _ => ws.length - (intOf iv).toNat)
  case atStart => exact ⟨0, v, Nat.zero_le _, rfl, by show Pn w0 e v (l ++ []) W; rw [List.append_nil]; exact P0.out, PenK.refl _ _ _⟩
  case round =>
    obtain ⟨k, v', hk, rfl, hp, hq⟩ := hrel
    have P1 := Lib.hid hp
    have K1 := Lib.hid hq
    clear hp hq P0
    have hk0 : 0 ≤ (k : Int) := by omega
    by_cases hlt : k < ws.length
    · have hki : (k : Int) < (ws.length : Int) := by omega
      obtain ⟨ad, rfl, hcp⟩ : ∃ ad, sa = some ad ∧ wr.cell? (ad.add k) = some (.int .u64 ((ws[k] : Nat) : Int)) := by
        rcases RS.out _ K1.out.k with ⟨h, h0⟩ | ⟨ad, c', h, _, hc⟩
        · rw [h0] at hlt; simp at hlt
        · injection h with h1 _ _
          exact ⟨ad, h1, hc k _ (List.getElem?_eq_getElem hlt)⟩
      have SN := Lib.hid (wordsE_snoc ws k hlt)
      have LW := Lib.hid (show (l ++ wordsE (ws.take k)).length ≤ 100800 by rw [List.length_append, wordsE_len, List.length_take]; have := HL.out; have := HN.out; omega)
      generalize ws[k] = x at *
      have hl' : Hid ((l ++ wordsE (ws.take k)).length ≤ 100800) := LW
      generalize hacc : l ++ wordsE (ws.take k) = acc at *
      have HAC := Lib.hid hacc
      clear hacc
      go_upto_region 4 with (fail)
      obtain ⟨a1, c1, hv1⟩ := own_form P1.out.r
      subst hv1
      have BC := Lib.hid (fun W => bytes_calls x W)
      have RX := Lib.hid (row_bytes8 (wr.drewN 1) x)
      have BD := Lib.hid ((Heap.below_drewN (Below.refl wr.heap.size wr) 1).alloc (Nat.le_refl _) (.cells ((leB 8 x).map enc8).toArray 5))
      have L8 := Lib.hid (leB_length 8 x)
      generalize hC8 : ((leB 8 x).map enc8).toArray = C8 at *
      have c0 := P1.out.c.cellAt (i := 0) rfl
      have cA := (P1.out.step ((Below.refl wr.heap.size wr).alloc (Nat.le_refl _) (.cells C8 5))).c.cellAt (i := 0) rfl
      have OR := Lib.hid (sl_below P1.out.r BD.out)
      have EL := Lib.hid (show e + 1 ≤ wr.heap.size from P1.out.c.lt)
      clear hlt hcp
      go_region_law (first
        | (refine step_append_row enc8_one (by rfl) (.tmp 17) (.tmp 19) 22 (by rfl) (e + 1) 5 ii _ 1 Try.underlying22 HI.out HZ.out HSz.out HBy.out (by rfl) (.slice a1 acc.length c1) acc.length _ (by rfl) OR.out _ (leB 8 x) (by rfl) RX.out (by rw [L8.out]; have := LW.out; unfold maxLen; omega) (by rw [L8.out]; have := LW.out; omega) (Nat.le_trans EL.out BD.out.size) ?_; intro v5 w5 hown hgrow hat; have F5 := Lib.hid (P1.out.grow BD.out hown hgrow hat); obtain ⟨a5, c5, rfl⟩ := own_form hown; have q5 := (((P1.out.step BD.out).c.keep (keep_grown hgrow) (fun q => by have := own_ge OR.out e q; omega))).cellAt (i := 0) rfl; have z5 := (((P1.out.step BD.out).c.keep (keep_grown hgrow) (fun q => by have := own_ge OR.out e q; omega))).unfrozen 0; clear hown hgrow hat)
        | ((with_reducible refine call_gate 24 ?_); go_simp; go_at_call 24; refine (BC.out _).mono ?_; rintro e w' ⟨rfl, rfl⟩))
      all_goals
        have K5 := Lib.hid (K1.out.trans F5.out.2)
        have EA := Lib.hid (show acc ++ leB 8 x = l ++ wordsE (ws.take (k + 1)) from by rw [← HAC.out, List.append_assoc, ← SN.out])
        have P5 := Lib.hid F5.out.1
        rw [EA.out] at P5
        clear P1 K1 c0 cA OR RX BD BC F5
        go_wp2
        go_roundw
        case rel => first | exact ⟨k + 1, _, by omega, by go_num, P5.out, K5.out⟩ | ((repeat apply Exists.intro); exact ⟨⟨k + 1, _, by omega, by go_num, P5.out, K5.out⟩, rfl⟩)
        case measure => simp [intOf]; omega
    · have hki : ¬ (k : Int) < (ws.length : Int) := by omega
      have ek : k = ws.length := by omega
      rw [ek, List.take_of_length_le (Nat.le_refl _)] at P1
      have F := Lib.hid (show PenP w0 e v (l ++ wordsE ws) W (.returned (.pointer (some ⟨e, 0, none⟩))) wr from ⟨v', rfl, P1.out, K1.out⟩)
      clear P1 K1 ek
      go_wp2
      go_ret
      exact F.out
theorem numE_len : ∀ (k n : Nat), n < 128 ^ (k + 1) → (numE n).length ≤ k + 1 := by
  intro k
  induction k with
  | zero => intro n h; rw [numE_small (by simpa using h)]; simp
  | succ k ih =>
    intro n h
    by_cases h1 : n < 128
    · rw [numE_small h1]; simp
    · rw [numE_big h1, List.length_cons]
      have := ih (n / 128) (by rw [Nat.div_lt_iff_lt_mul (by omega)]; rw [Nat.pow_succ] at h; exact h)
      omega
theorem numE_len10 {n : Nat} (h : n < 2 ^ 64) : (numE n).length ≤ 10 := numE_len 9 n (Nat.lt_of_lt_of_le h (by decide))
def numsE (ws : List Nat) : List Nat := ws.flatMap numE
theorem numsE_snoc (ws : List Nat) (k : Nat) (hk : k < ws.length) : numsE (ws.take (k + 1)) = numsE (ws.take k) ++ numE ws[k] := by
  unfold numsE
  rw [List.take_succ_eq_append_getElem hk, List.flatMap_append]
  simp
theorem numsE_len {ws : List Nat} (h : ∀ x ∈ ws, x < 2 ^ 64) : (numsE ws).length ≤ 10 * ws.length := by
  unfold numsE
  induction ws with
  | nil => simp
  | cons x r ih =>
    rw [List.flatMap_cons, List.length_append, List.length_cons]
    have h1 := numE_len10 (h x (by simp))
    have h2 := ih (fun y hy => h y (by simp [hy]))
    omega
theorem or128 (z : Nat) (h : z < 256) : bits .or .u8 (z : Int) 128 = ((z % 128 + 128 : Nat) : Int) := by
  have : ∀ z : Fin 256, bits .or .u8 ((z.val : Nat) : Int) 128 = ((z.val % 128 + 128 : Nat) : Int) := by decide +kernel
  exact this ⟨z, h⟩
theorem row_byte1 (w : World) (b : Nat) : Row (w.alloc (.cells #[.int .u8 (b : Int)] 5)) enc8 (.slice (some ⟨w.heap.size, 0, none⟩) 1 1) [b] := by
  exact Row.of_blk (Blk.new w #[.int .u8 (b : Int)] 5) (enc := enc8) (l := [b])
set_option maxHeartbeats 4000000 in
theorem nums_calls {w0 W : World} {e : Nat} {v : Value} {l : List Nat} (h : Pn w0 e v l W) (sv : Value) (ws : List Nat) (hr : ∀ W', Keep (PnS e v) W W' → Row W' enc64 sv ws) (hn : ws.length ≤ 100) (hl : l.length ≤ 100000) (h64 : ∀ x ∈ ws, x < 2 ^ 64) :
    Calls Try.prog 19 #[.pointer (some ⟨e, 0, none⟩), sv] W (PenP w0 e v (l ++ numsE ws) W) := by
  have RS := Lib.hid hr
  obtain ⟨sa, sc, hsv⟩ := (hr W (Keep.refl _ _)).form
  subst hsv
  have hn1 : (ws.length : Int) ≤ 100 := by omega
  obtain ⟨ii, hii, hz, hs, hb⟩ := byte_info
  have HI := Lib.hid hii
  have HZ := Lib.hid hz
  have HSz := Lib.hid hs
  have HBy := Lib.hid hb
  have HN := Lib.hid hn
  have HL := Lib.hid hl
  have P0 := Lib.hid h
  have H64 := Lib.hid h64
  clear hr hii hz hs hb h hn hl h64
  go_enter Try.func19, Try.ntmps19
  go_upto_region 2 with (fail)
  go_loopw [9] (fun iv wx => ∃ (k : Nat) (v' : Value), k ≤ ws.length ∧ iv = .int .i64 k ∧ Pn w0 e v' (l ++ numsE (ws.take k)) wx ∧ PenK e v v' W wx) (fun iv _ => ws.length - (intOf iv).toNat)
  case atStart => exact ⟨0, v, Nat.zero_le _, rfl, by show Pn w0 e v (l ++ []) W; rw [List.append_nil]; exact P0.out, PenK.refl _ _ _⟩
  case round =>
    obtain ⟨k, v', hk, rfl, hp, hq⟩ := hrel
    have P1 := Lib.hid hp
    have K1 := Lib.hid hq
    clear hp hq P0
    have hk0 : 0 ≤ (k : Int) := by omega
    by_cases hlt : k < ws.length
    · have hki : (k : Int) < (ws.length : Int) := by omega
      obtain ⟨ad, rfl, hcp⟩ : ∃ ad, sa = some ad ∧ wr.cell? (ad.add k) = some (.int .u64 ((ws[k] : Nat) : Int)) := by
        rcases RS.out _ K1.out.k with ⟨h, h0⟩ | ⟨ad, c', h, _, hc⟩
        · rw [h0] at hlt; simp at hlt
        · injection h with h1 _ _
          exact ⟨ad, h1, hc k _ (List.getElem?_eq_getElem hlt)⟩
      have SN := Lib.hid (numsE_snoc ws k hlt)
      have X64 := Lib.hid (H64.out ws[k] (List.getElem_mem hlt))
      have LW := Lib.hid (show (l ++ numsE (ws.take k)).length ≤ 101000 by
        have h1 := numsE_len (ws := ws.take k) (fun x hx => H64.out x (List.mem_of_mem_take hx))
        rw [List.length_append]; rw [List.length_take] at h1; have := HL.out; have := HN.out; omega)
      generalize ws[k] = x at *
      generalize hacc : l ++ numsE (ws.take k) = acc at *
      have HAC := Lib.hid hacc
      clear hacc hlt
      go_upto_region 4 with (fail)
      clear hcp
      go_loopw [6] (fun yv wx => ∃ (y : Nat) (v2 : Value) (a2 : List Nat), y ≤ x ∧ yv = .int .u64 y ∧ Pn w0 e v2 a2 wx ∧ PenK e v v2 W wx ∧ a2 ++ numE y = acc ++ numE x) (fun yv _ => (intOf yv).toNat)
      case atStart => exact ⟨x, v', acc, Nat.le_refl _, rfl, P1.out, K1.out, rfl⟩
      case round =>
        obtain ⟨y, v2, a2, hyx, rfl, hp2, hk2, he⟩ := hrel
        have P2 := Lib.hid hp2
        have K2 := Lib.hid hk2
        have HE := Lib.hid he
        have LA := Lib.hid (show a2.length ≤ 101010 by
          have h1 := congrArg List.length he
          rw [List.length_append, List.length_append] at h1
          have := numE_len10 X64.out; have := LW.out; omega)
        clear hp2 hk2 P1 K1 he
        obtain ⟨b1, c1, hv1⟩ := own_form P2.out.r
        subst hv1
        have EL := Lib.hid (show e + 1 ≤ wr.heap.size from P2.out.c.lt)
        have c0 := P2.out.c.cellAt (i := 0) rfl
        have hy0 : 0 ≤ (y : Int) := by omega
        by_cases hy : y < 128
        · have hyi : (y : Int) < 128 := by omega
          have hyi2 : ¬ (128 : Int) ≤ (y : Int) := by omega
          have hm : (y : Int) % 256 = (y : Int) := by omega
          have EA := Lib.hid (show a2 ++ [y] = l ++ numsE (ws.take (k + 1)) from by rw [SN.out, ← List.append_assoc, HAC.out, ← HE.out, numE_small hy])
          clear hy
          go_upto_region 7 with (fail)
          clear hyi2
          have BD := Lib.hid ((Below.refl wr.heap.size wr).alloc (Nat.le_refl _) (.cells #[.int .u8 ((y : Nat) : Int)] 5))
          have RX := Lib.hid (row_byte1 wr (y))
          have cA := (P2.out.step ((Below.refl wr.heap.size wr).alloc (Nat.le_refl _) (.cells #[.int .u8 ((y : Nat) : Int)] 5))).c.cellAt (i := 0) rfl
          have OR := Lib.hid (sl_below P2.out.r BD.out)
          go_wp2_with ((at_builtin; refine wpList_append_row enc8_one (by rfl) (.tmp 33) (.tmp 36) 22 (by rfl) (e + 1) 5 ii _ 1 Try.underlying22 HI.out HZ.out HSz.out HBy.out (by rfl) (.slice b1 a2.length c1) a2.length _ (by rfl) OR.out _ [y] (by rfl) RX.out (by have := LA.out; simp; unfold maxLen; omega) (by have := LA.out; simp; omega) (Nat.le_trans EL.out BD.out.size) ?_; intro v5 w5 hown hgrow hat; have F5 := Lib.hid (P2.out.grow BD.out hown hgrow hat); obtain ⟨a5, c5, rfl⟩ := own_form hown; have q5 := (((P2.out.step BD.out).c.keep (keep_grown hgrow) (fun q => by have := own_ge OR.out e q; omega))).cellAt (i := 0) rfl; have z5 := (((P2.out.step BD.out).c.keep (keep_grown hgrow) (fun q => by have := own_ge OR.out e q; omega))).unfrozen 0; clear hown hgrow hat))
          have K5 := Lib.hid (K2.out.trans F5.out.2)
          have P5 := Lib.hid F5.out.1
          rw [EA.out] at P5
          clear P2 K2 c0 cA OR RX BD F5
          go_roundw
          case rel => first | exact ⟨k + 1, _, by omega, by go_num, P5.out, K5.out⟩ | ((repeat apply Exists.intro); exact ⟨⟨k + 1, _, by omega, by go_num, P5.out, K5.out⟩, rfl⟩)
          case measure => first | (simp only [intOf]; omega) | (simp [intOf]; omega)
        · have hyi : (128 : Int) ≤ (y : Int) := by omega
          obtain ⟨z, hz, hz2⟩ : ∃ z, y % 256 = z ∧ z < 256 := ⟨_, rfl, by omega⟩
          have hzi : (y : Int) % 256 = (z : Int) := by omega
          obtain ⟨bb, hbb⟩ : ∃ bb, y % 128 + 128 = bb := ⟨_, rfl⟩
          obtain ⟨d, hd⟩ : ∃ d, y / 128 = d := ⟨_, rfl⟩
          have hor : bits .or .u8 (z : Int) 128 = (bb : Int) := by rw [← hbb, show y % 128 = z % 128 by omega]; exact or128 z hz2
          have hdv : (y : Int) / 128 = (d : Int) := by omega
          have EA := Lib.hid (show (a2 ++ [bb]) ++ numE d = acc ++ numE x from by rw [← hbb, ← hd, List.append_assoc, List.singleton_append, ← numE_big hy, HE.out])
          have HYX := Lib.hid (show d ≤ x by omega)
          have HYL := Lib.hid (show d < y by omega)
          clear hy hz hz2 hbb hd
          go_upto_region 6 with (fail)
          have BD := Lib.hid ((Below.refl wr.heap.size wr).alloc (Nat.le_refl _) (.cells #[.int .u8 ((bb : Nat) : Int)] 5))
          have RX := Lib.hid (row_byte1 wr (bb))
          have cA := (P2.out.step ((Below.refl wr.heap.size wr).alloc (Nat.le_refl _) (.cells #[.int .u8 ((bb : Nat) : Int)] 5))).c.cellAt (i := 0) rfl
          have OR := Lib.hid (sl_below P2.out.r BD.out)
          go_wp2_with ((at_builtin; refine wpList_append_row enc8_one (by rfl) (.tmp 21) (.tmp 25) 22 (by rfl) (e + 1) 5 ii _ 1 Try.underlying22 HI.out HZ.out HSz.out HBy.out (by rfl) (.slice b1 a2.length c1) a2.length _ (by rfl) OR.out _ [bb] (by rfl) RX.out (by have := LA.out; simp; unfold maxLen; omega) (by have := LA.out; simp; omega) (Nat.le_trans EL.out BD.out.size) ?_; intro v5 w5 hown hgrow hat; have F5 := Lib.hid (P2.out.grow BD.out hown hgrow hat); obtain ⟨a5, c5, rfl⟩ := own_form hown; have q5 := (((P2.out.step BD.out).c.keep (keep_grown hgrow) (fun q => by have := own_ge OR.out e q; omega))).cellAt (i := 0) rfl; have z5 := (((P2.out.step BD.out).c.keep (keep_grown hgrow) (fun q => by have := own_ge OR.out e q; omega))).unfrozen 0; clear hown hgrow hat))
          have K5 := Lib.hid (K2.out.trans F5.out.2)
          have P5 := Lib.hid F5.out.1
          clear P2 K2 c0 cA OR RX BD F5
          go_roundw
          case rel => first | exact ⟨d, _, _, HYX.out, by first | go_num | rfl, P5.out, K5.out, EA.out⟩ | ((repeat apply Exists.intro); exact ⟨⟨d, _, _, HYX.out, by first | go_num | rfl, P5.out, K5.out, EA.out⟩, rfl⟩)
          case measure => first | (have := HYL.out; simp only [intOf]; omega) | (have := HYL.out; simp [intOf]; omega)
    · have hki : ¬ (k : Int) < (ws.length : Int) := by omega
      have ek : k = ws.length := by omega
      rw [ek, List.take_of_length_le (Nat.le_refl _)] at P1
      have F := Lib.hid (show PenP w0 e v (l ++ numsE ws) W (.returned (.pointer (some ⟨e, 0, none⟩))) wr from ⟨v', rfl, P1.out, K1.out⟩)
      clear P1 K1 ek
      go_wp2
      go_ret
      exact F.out
theorem numsE_one (n : Nat) : numsE [n] = numE n := by simp [numsE]
set_option maxHeartbeats 4000000 in
theorem penBytes_calls {w0 W : World} {e : Nat} {v : Value} {l : List Nat} (h : Pn w0 e v l W) (pv : Value) (pl : List Nat) (hr : ∀ W', Keep (PnS e v) W W' → Row W' enc8 pv pl) (hn : pl.length ≤ 1000) (hl : l.length ≤ 90000) :
    Calls Try.prog 20 #[.pointer (some ⟨e, 0, none⟩), pv] W (PenP w0 e v (l ++ (numE pl.length ++ pl)) W) := by
  have RS := Lib.hid hr
  obtain ⟨sa, sc, hsv⟩ := (hr W (Keep.refl _ _)).form
  subst hsv
  obtain ⟨ii, hii, hz, hs, hb⟩ := byte_info
  have HI := Lib.hid hii
  have HZ := Lib.hid hz
  have HSz := Lib.hid hs
  have HBy := Lib.hid hb
  have BD := Lib.hid ((Below.refl W.heap.size W).alloc (Nat.le_refl _) (.cells #[.int .u64 (pl.length : Int)] 27))
  have P1 := Lib.hid (h.step BD.out)
  have K1 := Lib.hid (PenK.below (e := e) (v := v) BD.out)
  have EN := Lib.hid (fun q => own_ge h.r q)
  have VL := Lib.hid (fun q hq => (World.ownsRow.lt h.r q hq).2)
  have E1 := Lib.hid h.c.lt
  have RL := Lib.hid (fun (W' : World) (k : Keep (PnS e v) (W.alloc (.cells #[.int .u64 (pl.length : Int)] 27)) W') => show Row W' enc64 (.slice (some ⟨W.heap.size, 0, none⟩) 1 1) [pl.length] from
    Row.of_blk ((Blk.new W #[.int .u64 (pl.length : Int)] 27).keep k (fun hs => by
      rcases hs with h1 | h1
      · have := E1.out; omega
      · have := VL.out _ h1; omega)) (enc := enc64) (l := [pl.length]))
  have NC := Lib.hid (nums_calls P1.out _ [pl.length] RL.out (by simp) (by omega) (by intro x hx; rw [List.mem_singleton] at hx; subst hx; omega))
  rw [numsE_one] at NC
  have LP := Lib.hid (show (l ++ numE pl.length).length ≤ 90010 by rw [List.length_append]; have := numE_len10 (n := pl.length) (by omega); omega)
  have HP := Lib.hid hn
  have hp0 : 0 ≤ (pl.length : Int) := by omega
  have hp1 : (pl.length : Int) ≤ 1000 := by omega
  have hpw : IntKind.u64.wrap (pl.length : Int) = (pl.length : Int) := by rw [IntKind.wrap_u64]; omega
  have EA := Lib.hid (List.append_assoc l (numE pl.length) pl)
  clear hr hii hz hs hb h hn hl RL P1 EN VL E1 BD
  generalize l ++ numE pl.length = acc at *
  generalize l ++ (numE pl.length ++ pl) = res at *
  go_enter Try.func20, Try.ntmps20
  go_upto_region 2 with (go_at_call 19; refine NC.out.mono ?_; rintro en w2 ⟨v2, rfl, p2, k2⟩; have P2 := Lib.hid p2; have K2 := Lib.hid (K1.out.trans k2); clear p2 k2)
  clear NC K1
  obtain ⟨b1, c1, hv1⟩ := own_form P2.out.r
  subst hv1
  have EL := Lib.hid (show e + 1 ≤ w2.heap.size from P2.out.c.lt)
  have c0 := P2.out.c.cellAt (i := 0) rfl
  have RX := Lib.hid (RS.out w2 K2.out.k)
  go_wp2_with ((at_builtin; refine wpList_append_row enc8_one (by rfl) (.tmp 15) (.tmp 16) 22 (by rfl) (e + 1) 5 ii _ 1 Try.underlying22 HI.out HZ.out HSz.out HBy.out (by rfl) (.slice b1 acc.length c1) acc.length _ (by rfl) P2.out.r _ pl (by rfl) RX.out (by have := LP.out; have := HP.out; unfold maxLen; omega) (by have := LP.out; have := HP.out; omega) EL.out ?_; intro v5 w5 hown hgrow hat; have F5 := Lib.hid (P2.out.grow (Below.refl _ _) hown hgrow hat); obtain ⟨a5, c5, rfl⟩ := own_form hown; have q5 := ((P2.out.c.keep (keep_grown hgrow) (fun q => by have := own_ge P2.out.r e q; omega))).cellAt (i := 0) rfl; have z5 := ((P2.out.c.keep (keep_grown hgrow) (fun q => by have := own_ge P2.out.r e q; omega))).unfrozen 0; clear hown hgrow hat))
  have K5 := Lib.hid (K2.out.trans F5.out.2)
  have P5 := Lib.hid F5.out.1
  rw [EA.out] at P5
  go_ret
  exact ⟨_, rfl, P5.out, K5.out⟩
theorem row_taken {α : Type} {w : World} {enc : α → Value} {a : Addr} {cap : Nat} {l : List α} (h : Row w enc (.slice (some a) l.length cap) l) (k : Nat) (hk : k ≤ l.length) : Row w enc (.slice (some a) k cap) (l.take k) := by
  rcases h with ⟨h, _⟩ | ⟨a', cap', h, hc, hcell⟩
  · cases h
  · injection h with h1 _ h3
    injection h1 with h1
    subst h1; subst h3
    have e : (l.take k).length = k := by rw [List.length_take]; omega
    refine .inr ⟨a, cap, by rw [e], by rw [e]; omega, fun i x hi => hcell i x ?_⟩
    rw [List.getElem?_take] at hi
    split at hi
    · exact hi
    · cases hi
def rdW (l : List Nat) (bad : Bool) : Nat × List Nat × Bool := if bad = true ∨ l.length < 8 then (0, l, true) else (ofB (l.take 8), l.drop 8, false)
def RdP (w : World) (e : Nat) (r : Nat × List Nat × Bool) (en : Ending) (w' : World) : Prop := ∃ v', en = .returned (.int .u64 (r.1 : Int)) ∧ Keep (fun i => i = e) w w' ∧ Ey w' e v' r.2.1 r.2.2
set_option maxHeartbeats 2000000 in
theorem word_calls {w : World} {e : Nat} {v : Value} {l : List Nat} {bad : Bool} (h : Ey w e v l bad) : Calls Try.prog 21 #[.pointer (some ⟨e, 0, none⟩)] w (RdP w e (rdW l bad)) := by
  obtain ⟨a, cap, hv⟩ := (h.r w (Keep.refl _ _)).form
  subst hv
  have c0 := h.c.cellAt (i := 0) rfl
  have c1 := h.c.cellAt (i := 1) rfl
  have f1 := h.c.unfrozen 1
  have hl0 : 0 ≤ (l.length : Int) := by omega
  have hl1 : (l.length : Int) ≤ 1000000 := by have := h.le; omega
  have H := Lib.hid h
  by_cases hb : bad = true
  · subst hb
    have F := Lib.hid (show RdP w e (rdW l true) (.returned (.int .u64 0)) (w.setCell ⟨e, 1, none⟩ (.bool true)) from ⟨_, rfl, keep_one _ _ _ _, h.set true⟩)
    clear h H
    go_enter Try.func21, Try.ntmps21
    go_wp2
    go_ret
    exact F.out
  · have hb2 : bad = false := by simpa using hb
    subst hb2
    by_cases h8 : l.length < 8
    · have h8i : (l.length : Int) < 8 := by omega
      have F := Lib.hid (show RdP w e (rdW l false) (.returned (.int .u64 0)) (w.setCell ⟨e, 1, none⟩ (.bool true)) from by unfold rdW; rw [if_pos (.inr h8)]; exact ⟨_, rfl, keep_one _ _ _ _, h.set true⟩)
      clear h H h8 hb
      go_enter Try.func21, Try.ntmps21
      go_wp2
      go_ret
      exact F.out
    · have h8i : ¬ (l.length : Int) < 8 := by omega
      have h8j : (8 : Int) ≤ (l.length : Int) := by omega
      have HL := Lib.hid (show 8 ≤ l.length by omega)
      obtain ⟨ad, rfl, hcl⟩ : ∃ ad, a = some ad ∧ l.length ≤ cap := by
        rcases h.r w (Keep.refl _ _) with ⟨h1, h0⟩ | ⟨ad, c', h1, hc, _⟩
        · rw [h0] at h8; simp at h8
        · injection h1 with h1 _ h3
          exact ⟨ad, h1, by omega⟩
      have hcl1 : (8 : Int) ≤ (cap : Int) := by omega
      have hcl2 : (l.length : Int) ≤ (cap : Int) := by omega
      have S1 := Lib.hid (h.set false)
      have RT := Lib.hid (row_taken (S1.out.r _ (Keep.refl _ _)) 8 HL.out)
      have OC := Lib.hid (of_calls (l.take 8) _ _ RT.out (fun x hx => h.bt x (List.mem_of_mem_take hx)) (by rw [List.length_take]; omega))
      rw [List.take_take, Nat.min_self] at OC
      have FR := Lib.hid (show rdW l false = (ofB (l.take 8), l.drop 8, false) from by unfold rdW; rw [if_neg (by rintro (h1 | h1); cases h1; exact h8 h1)])
      have KS := Lib.hid (keep_one w e 1 (.bool false))
      clear h H h8 hb
      generalize hn : l.length = n at *
      have HN := Lib.hid hn
      clear hn
      generalize ofB (l.take 8) = ob at *
      generalize hoi : (ob : Int) = oi at *
      have HOI := Lib.hid hoi
      clear hoi
      go_enter Try.func21, Try.ntmps21
      go_upto_region 5 with (go_at_call 23; refine OC.out.mono ?_; rintro en w2 ⟨rfl, rfl⟩)
      have d0 := S1.out.c.cellAt (i := 0) rfl
      have g0 := S1.out.c.unfrozen 0
      clear c0 c1 f1 OC RT
      generalize w.setCell ⟨e, 1, none⟩ (.bool false) = w2 at *
      go_wp2
      all_goals
        go_ret
        rw [FR.out]
      · refine ⟨_, ret_int HOI.out.symm, KS.out.trans (keep_one _ _ _ _), S1.out.cut 8 fun wx hr => ?_⟩
        rw [← HN.out] at hr ⊢
        exact row_dropped0 hr 8 (by omega)
      · refine ⟨_, ret_int HOI.out.symm, KS.out.trans (keep_one _ _ _ _), S1.out.cut 8 fun wx hr => ?_⟩
        rw [← HN.out] at hr ⊢
        exact row_dropped hr 7 (by have := HL.out; have := HN.out; omega)
/-- What 'Bytes' reads. -/
def rdB (l : List Nat) (bad : Bool) (most : Nat) : List Nat × List Nat × Bool :=
  if (numS l bad most).2.2 = true ∨ (numS l bad most).2.1.length < (numS l bad most).1 then ([], (numS l bad most).2.1, true)
  else ((numS l bad most).2.1.take (numS l bad most).1, (numS l bad most).2.1.drop (numS l bad most).1, false)
def RbP (w : World) (e : Nat) (r : List Nat × List Nat × Bool) (en : Ending) (w' : World) : Prop := ∃ v v', en = .returned v ∧ Row w' enc8 v r.1 ∧ Keep (fun i => i = e) w w' ∧ Ey w' e v' r.2.1 r.2.2
theorem row_add {α : Type} {w : World} {enc : α → Value} {a : Addr} {cap : Nat} {l : List α} (h : Row w enc (.slice (some a) l.length cap) l) (k : Nat) (hk : k ≤ l.length) : Row w enc (.slice (some (a.add k)) (l.length - k) (cap - k)) (l.drop k) := by
  cases k with
  | zero => simpa [Addr.add] using h
  | succ k =>
    have h1 := row_dropped h k hk
    unfold Addr.add
    rw [if_neg (by omega)]
    exact h1
theorem numS_le (l : List Nat) (bad : Bool) (most : Nat) : (numS l bad most).1 ≤ most := by
  unfold numS
  split
  · exact Nat.zero_le _
  · split
    · rename_i x n h
      by_cases hm : x ≤ most
      · rw [if_pos hm]; exact hm
      · rw [if_neg hm]; exact Nat.zero_le _
    · exact Nat.zero_le _
theorem num_any {w : World} {e : Nat} {v : Value} {l : List Nat} {bad : Bool} (h : Ey w e v l bad) (most : Nat) :
    Calls Try.prog 12 #[.pointer (some ⟨e, 0, none⟩), .int .u64 (most : Int)] w (NumP w e (numS l bad most)) := by
  cases bad with
  | false => exact num_calls h most
  | true => exact num_bad h most
set_option maxHeartbeats 4000000 in
theorem eyeBytes_calls {w : World} {e : Nat} {v : Value} {l : List Nat} {bad : Bool} (h : Ey w e v l bad) : Calls Try.prog 22 #[.pointer (some ⟨e, 0, none⟩), .int .i64 60] w (RbP w e (rdB l bad 60)) := by
  have NC := Lib.hid (num_any h 60)
  have NL := Lib.hid (numS_le l bad 60)
  have RB := Lib.hid (show rdB l bad 60 = (if (numS l bad 60).2.2 = true ∨ (numS l bad 60).2.1.length < (numS l bad 60).1 then ([], (numS l bad 60).2.1, true) else ((numS l bad 60).2.1.take (numS l bad 60).1, (numS l bad 60).2.1.drop (numS l bad 60).1, false)) from rfl)
  generalize rdB l bad 60 = res at *
  generalize numS l bad 60 = r at *
  obtain ⟨n, l2, b2⟩ := r
  simp only at NC NL RB
  have hn60 : (n : Int) ≤ 60 := by have := NL.out; omega
  have hn0 : 0 ≤ (n : Int) := by omega
  have hnw : IntKind.i64.wrap (n : Int) = (n : Int) := by rw [IntKind.wrap_i64]; omega
  obtain ⟨ii, hii, hz, hs, hb⟩ := byte_info
  have HI := Lib.hid hii
  have HZ := Lib.hid hz
  have HSz := Lib.hid hs
  have HBy := Lib.hid hb
  clear hii hz hs hb h
  go_enter Try.func22, Try.ntmps22
  go_upto_region 2 with (go_at_call 12; refine NC.out.mono ?_; rintro en w2 ⟨v2, rfl, k2, e2⟩; have K2 := Lib.hid k2; have E2 := Lib.hid e2; clear k2 e2)
  clear NC
  obtain ⟨a, cap, hv⟩ := (E2.out.r w2 (Keep.refl _ _)).form
  subst hv
  have c0 := E2.out.c.cellAt (i := 0) rfl
  have c1 := E2.out.c.cellAt (i := 1) rfl
  have f1 := E2.out.c.unfrozen 1
  have hl0 : 0 ≤ (l2.length : Int) := by omega
  have hl1 : (l2.length : Int) ≤ 1000000 := by have := E2.out.le; omega
  have K3 := Lib.hid (K2.out.trans (keep_one w2 e 1 (.bool true)))
  have E3 := Lib.hid (E2.out.set true)
  cases b2 with
  | true =>
    have F : Hid (res = ([], l2, true)) := by show res = _; rw [RB.out, if_pos (.inl rfl)]
    clear RB
    go_wp2
    go_ret
    rw [show res = _ from F.out]
    exact ⟨_, _, rfl, Row.nil _ _, K3.out, E3.out⟩
  | false =>
    by_cases hln : l2.length < n
    · have hlni : (l2.length : Int) < (n : Int) := by omega
      have F : Hid (res = ([], l2, true)) := by show res = _; rw [RB.out, if_pos (.inr hln)]
      clear RB hln
      go_wp2
      go_ret
      rw [show res = _ from F.out]
      exact ⟨_, _, rfl, Row.nil _ _, K3.out, E3.out⟩
    · have hlni : ¬ (l2.length : Int) < (n : Int) := by omega
      have hlnj : (n : Int) ≤ (l2.length : Int) := by omega
      have F : Hid (res = (l2.take n, l2.drop n, false)) := by show res = _; rw [RB.out, if_neg (by rintro (h | h); cases h; exact hln h)]
      clear RB K3 E3
      have K3 := Lib.hid (K2.out.trans (keep_one w2 e 1 (.bool false)))
      have E3 := Lib.hid (E2.out.set false)
      go_upto_region 5 with (fail)
      have d0 := E3.out.c.cellAt (i := 0) rfl
      have g0 := E3.out.c.unfrozen 0
      clear c0 c1 f1 K2 E2
      have SZ := Lib.hid (show w2.heap.size ≤ (w2.setCell ⟨e, 1, none⟩ (.bool false)).heap.size from (keep_one w2 e 1 (.bool false)).size)
      generalize w2.setCell ⟨e, 1, none⟩ (.bool false) = w3 at *
      have EE := Lib.hid E3.out.c.lt
      have B3 := Lib.hid (show w2.heap.size ≤ w3.heap.size from SZ.out)
      have AP := Lib.hid (fun (w5 : World) (v5 : Value) (sl : List Nat) (ho : w5.ownsRow w3.heap.size 5 1 v5 (0 + sl.length) ([] ++ sl.map enc8)) (hg : w3.grownBy w5 (Value.slice none 0 0).ownBlock) => show (∀ w6, Keep (fun i => i = e) w5 w6 → Row w6 enc8 v5 sl) ∧ Below w3.heap.size w3 w5 from ⟨fun w6 k6 => row_owns (n := sl.length) (base := w3.heap.size) (e := 5) (by
        rw [Nat.zero_add, List.nil_append] at ho
        exact sl_keep ho k6 (fun g hg q => by have := (World.ownsRow.lt ho g hg).1; have := EE.out; omega)), Keep.below (keep_grown hg) (fun _ _ e => by cases e)⟩)
      cases a with
      | none =>
        obtain ⟨rfl, rfl⟩ : l2 = [] ∧ cap = 0 := by
          rcases E3.out.r w3 (Keep.refl _ _) with ⟨h1, h2⟩ | ⟨ad, c', h1, _⟩
          · injection h1 with _ _ h3
            exact ⟨h2, h3⟩
          · cases h1
        obtain rfl : n = 0 := by simp at hlnj; omega
        simp only [List.length_nil] at d0 ⊢
        as_aux_lemma =>
          go_upto_region 6 with (at_builtin; refine wpList_append_row enc8_one (by rfl) (.const (.slice none 0 0)) (.tmp 38) 22 (by rfl) w3.heap.size 5 ii _ 1 Try.underlying22 HI.out HZ.out HSz.out HBy.out (by rfl) (.slice none 0 0) 0 [] (by rfl) (World.ownsRow_nil _ _ _ _) (.slice none 0 0) ([] : List Nat) (by rfl) (Row.nil _ _) (by simp [maxLen]) (by simp) (Nat.le_refl _) ?_; intro v5 w5 h5 g5 o5; have R5 := Lib.hid (AP.out w5 v5 [] h5 g5); clear h5 g5 o5)
          have E5 := Lib.hid (E3.out.keep R5.out.2)
          have e0 := E5.out.c.cellAt (i := 0) rfl
          have z0 := E5.out.c.unfrozen 0
          have K5 := Lib.hid (K3.out.trans (Keep.of_below (S := fun i => i = e) R5.out.2))
          clear E3 K3 AP d0 g0
          go_wp2
          go_ret
          rw [show res = _ from F.out]
          exact ⟨_, _, rfl, R5.out.1 _ (keep_one _ _ _ _), K5.out.trans (keep_one _ _ _ _), E5.out.cut 0 fun wx hr => hr⟩
      | some ad =>
        have RT := Lib.hid (row_taken (E3.out.r w3 (Keep.refl _ _)) n (by omega))
        have TL := Lib.hid (show (l2.take n).length = n by rw [List.length_take]; omega)
        have hcl : l2.length ≤ cap := by
          rcases E3.out.r w3 (Keep.refl _ _) with ⟨h1, _⟩ | ⟨ad, c', h1, hc, _⟩
          · cases h1
          · injection h1 with _ _ h3; omega
        have hnc : (n : Int) ≤ (cap : Int) := by omega
        have hlc : (l2.length : Int) ≤ (cap : Int) := by omega
        have HLN := Lib.hid (show n ≤ l2.length by omega)
        clear hln
        go_upto_region 6 with (at_builtin; refine wpList_append_row enc8_one (by rfl) (.const (.slice none 0 0)) (.tmp 38) 22 (by rfl) w3.heap.size 5 ii _ 1 Try.underlying22 HI.out HZ.out HSz.out HBy.out (by rfl) (.slice none 0 0) 0 [] (by rfl) (World.ownsRow_nil _ _ _ _) (.slice (some ad) n cap) (l2.take n) (by rfl) RT.out (by have h1 := TL.out; have h2 := NL.out; unfold maxLen; omega) (by have h1 := TL.out; have h2 := NL.out; omega) (Nat.le_refl _) ?_; intro v5 w5 h5 g5 o5; have R5 := Lib.hid (AP.out w5 v5 (l2.take n) h5 g5); clear h5 g5 o5)
        have E5 := Lib.hid (E3.out.keep R5.out.2)
        have e0 := E5.out.c.cellAt (i := 0) rfl
        have z0 := E5.out.c.unfrozen 0
        have K5 := Lib.hid (K3.out.trans (Keep.of_below (S := fun i => i = e) R5.out.2))
        clear E3 K3 AP d0 g0 RT
        go_wp2
        all_goals
          go_ret
          rw [show res = _ from F.out]
        · exact ⟨_, _, rfl, R5.out.1 _ (keep_one _ _ _ _), K5.out.trans (keep_one _ _ _ _), E5.out.cut n fun wx hr => row_dropped0 hr n (by omega)⟩
        · exact ⟨_, _, rfl, R5.out.1 _ (keep_one _ _ _ _), K5.out.trans (keep_one _ _ _ _), E5.out.cut n fun wx hr => row_add hr n HLN.out⟩
end Go.Proofs.Ytpimjioamoaejaa.Walks
