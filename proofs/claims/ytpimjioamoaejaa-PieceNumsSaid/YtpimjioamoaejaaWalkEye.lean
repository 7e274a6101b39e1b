/- Walks through the functions of the statement, and the statement over them: each contract says what the call answers and that nothing else changes. -/
import Derived.Test.YtpimjioamoaejaaProg
import Derived.Laws.BytesString
import Derived.Test.YtpimjioamoaejaaBits
import Derived.Test.YtpimjioamoaejaaHeap
import Derived.Test.YtpimjioamoaejaaAid
import Derived.Lib.Hide
import Derived.Test.YtpimjioamoaejaaArr
import Derived.Test.YtpimjioamoaejaaEql
import Derived.Test.YtpimjioamoaejaaWalkSums
import Derived.WalkKit
import Derived.WalkSpells
import Derived.WalkLawsBesides
import Derived.Deep.QuietTactic
import Derived.BigQuiet
import Derived.Deep.RegionHeld3
import Derived.Deep.DeepCutAuto
import Derived.Deep.CutBlock
import Derived.Lib.SlBytesConst
import Derived.StillTailTactics
import Derived.Laws.MakeOwn
import Derived.Deep.AppendLies
import Derived.Laws.CopyOwn
import Derived.RegionTactic
namespace Go.Proofs.Ytpimjioamoaejaa.Walks
set_option linter.unusedVariables false
set_option linter.unusedSimpArgs false
open Go.RowKit Go.Proofs.Ytpimjioamoaejaa.Bits Go.Proofs.Ytpimjioamoaejaa.Heap Go.Proofs.Ytpimjioamoaejaa.Aid Go.Proofs.Ytpimjioamoaejaa.Arr Go.Proofs.Ytpimjioamoaejaa.Eql

/-- Numbers of seven bits a byte, the lowest first: a row's value; the number that stands ahead of a row (from place i on), and how many bytes it takes. -/
def numP : List Nat → Nat
  | [] => 0
  | b :: r => b % 128 + 128 * numP r
def stopB (i b : Nat) : Prop := 9 < i ∨ (i = 9 ∧ 1 < b) ∨ (0 < i ∧ b = 0)
instance (i b : Nat) : Decidable (stopB i b) := by unfold stopB; exact inferInstance
def numA : Nat → List Nat → Option (Nat × Nat)
  | _, [] => none
  | i, b :: r => if stopB i b then none else if b < 128 then some (b, 1) else (numA (i + 1) r).map fun x => (b % 128 + 128 * x.1, x.2 + 1)
theorem numP_snoc (l : List Nat) (b : Nat) : numP (l ++ [b]) = numP l + b % 128 * 128 ^ l.length := by
  induction l with
  | nil => simp [numP]
  | cons x r ih =>
    simp only [List.cons_append, numP, ih, List.length_cons]
    rw [Nat.pow_succ', Nat.mul_add, Nat.add_assoc, ← Nat.mul_assoc, Nat.mul_comm 128 (b % 128), Nat.mul_assoc]
theorem numP_lt (l : List Nat) : numP l < 128 ^ l.length := by
  induction l with
  | nil => simp [numP]
  | cons x r ih => simp only [numP, List.length_cons]; rw [Nat.pow_succ']; omega
/-- So far: the number ahead is what was read, and what is ahead of the rest. -/
def numJ (l : List Nat) (k : Nat) : Prop := numA 0 l = (numA k (l.drop k)).map fun x => (numP (l.take k) + 128 ^ k * x.1, x.2 + k)
theorem numJ_zero (l : List Nat) : numJ l 0 := by
  unfold numJ
  simp [numP]
theorem numJ_step {l : List Nat} {k : Nat} (h : numJ l k) (hk : k < l.length) (hs : ¬ stopB k l[k]) (hb : ¬ l[k] < 128) : numJ l (k + 1) := by
  unfold numJ at *
  rw [h, List.drop_eq_getElem_cons hk, numA, if_neg hs, if_neg hb, Option.map_map, List.take_succ_eq_append_getElem hk, numP_snoc, List.length_take, Nat.min_eq_left (Nat.le_of_lt hk)]
  congr 1
  funext x
  simp only [Function.comp, Prod.mk.injEq]
  constructor
  · rw [Nat.pow_succ, Nat.mul_add, ← Nat.mul_assoc, Nat.mul_comm (128 ^ k) (l[k] % 128), Nat.add_assoc]
  · omega
theorem numJ_stop {l : List Nat} {k : Nat} (h : numJ l k) (hk : k < l.length) (hs : stopB k l[k]) : numA 0 l = none := by
  unfold numJ at h
  rw [h, List.drop_eq_getElem_cons hk, numA, if_pos hs]; rfl
theorem numJ_end {l : List Nat} {k : Nat} (h : numJ l k) (hk : l.length ≤ k) : numA 0 l = none := by
  unfold numJ at h
  rw [h, List.drop_of_length_le hk]; rfl
theorem numJ_ten {l : List Nat} {k : Nat} (h : numJ l k) (hk : 9 < k) : numA 0 l = none := by
  by_cases hl : l.length ≤ k
  · exact numJ_end h hl
  · exact numJ_stop h (by omega) (.inl hk)
theorem numJ_last {l : List Nat} {k : Nat} (h : numJ l k) (hk : k < l.length) (hs : ¬ stopB k l[k]) (hb : l[k] < 128) : numA 0 l = some (numP (l.take (k + 1)), k + 1) := by
  unfold numJ at h
  rw [h, List.drop_eq_getElem_cons hk, numA, if_neg hs, if_pos hb, List.take_succ_eq_append_getElem hk, numP_snoc, List.length_take, Nat.min_eq_left (Nat.le_of_lt hk), Nat.mod_eq_of_lt hb]
  simp only [Option.map_some, Option.some.injEq, Prod.mk.injEq]
  constructor
  · rw [Nat.mul_comm]
  · omega
theorem numP_fit {l : List Nat} {k : Nat} (hk : k < l.length) (hs : ¬ stopB k l[k]) : l[k] % 128 * 128 ^ k < 2 ^ 64 ∧ k ≤ 9 := by
  unfold stopB at hs
  have h9 : k ≤ 9 := by omega
  refine ⟨?_, h9⟩
  rcases Nat.lt_or_eq_of_le h9 with h | h
  · have h1 : l[k] % 128 ≤ 127 := by omega
    have h2 : (128 : Nat) ^ k ≤ 128 ^ 8 := Nat.pow_le_pow_right (by omega) (by omega)
    have h3 := Nat.mul_le_mul h1 h2
    have h4 : 127 * 128 ^ 8 < 2 ^ 64 := by decide
    omega
  · have h1 : l[k] % 128 ≤ 1 := by omega
    have h2 : (128 : Nat) ^ k ≤ 128 ^ 9 := Nat.pow_le_pow_right (by omega) (by omega)
    have h3 := Nat.mul_le_mul h1 h2
    have h4 : 1 * 128 ^ 9 < 2 ^ 64 := by decide
    omega
theorem numA_lt {l : List Nat} (hl : ∀ x ∈ l, x < 256) {v n : Nat} (h : numA 0 l = some (v, n)) : n ≤ l.length ∧ 0 < n := by
  have : ∀ (l : List Nat) (i : Nat) (v n : Nat), numA i l = some (v, n) → n ≤ l.length ∧ 0 < n := by
    intro l
    induction l with
    | nil => intro i v n h; simp [numA] at h
    | cons b r ih =>
      intro i v n h
      rw [numA] at h
      split at h
      · cases h
      · split at h
        · simp only [Option.some.injEq, Prod.mk.injEq] at h
          simp only [List.length_cons]; omega
        · obtain ⟨x, hx, he⟩ := Option.map_eq_some_iff.1 h
          simp only [Prod.mk.injEq] at he
          have := ih (i + 1) x.1 x.2 hx
          simp only [List.length_cons]; omega
  exact this l 0 v n h
/-- An eye: its struct, what it has yet to read, whether there is a fault. -/
structure Ey (w : World) (e : Nat) (v : Value) (l : List Nat) (bad : Bool) : Prop where
  c : Blk w e [v, .bool bad] 54
  r : ∀ wx, Keep (fun i => i = e) w wx → Row wx enc8 v l
  bt : ∀ x ∈ l, x < 256
  le : l.length ≤ 1000000
def numS (l : List Nat) (bad : Bool) (most : Nat) : Nat × List Nat × Bool := if bad then (0, l, true) else match numA 0 l with
  | some (x, n) => if x ≤ most then (x, l.drop n, false) else (0, l, true)
  | none => (0, l, true)
def NumP (w : World) (e : Nat) (r : Nat × List Nat × Bool) (en : Ending) (w' : World) : Prop := ∃ v', en = .returned (.int .u64 (r.1 : Int)) ∧ Keep (fun i => i = e) w w' ∧ Ey w' e v' r.2.1 r.2.2
theorem Ey.keep {w w' : World} {e : Nat} {v : Value} {l : List Nat} {bad : Bool} (h : Ey w e v l bad) (hb : Below w.heap.size w w') : Ey w' e v l bad :=
  ⟨h.c.below hb h.c.lt, fun wx k => h.r wx ((Keep.of_below hb).trans k), h.bt, h.le⟩
/-- Its struct's cells are others. -/
theorem Ey.set {w : World} {e : Nat} {v : Value} {l : List Nat} {bad : Bool} (h : Ey w e v l bad) (b : Bool) : Ey (w.setCell ⟨e, 1, none⟩ (.bool b)) e v l b :=
  ⟨h.c.set 1 (.bool b), fun wx k => h.r wx ((Keep.setCell (S := fun i => i = e) (Keep.refl _ w) (p := ⟨e, 1, none⟩) (fun _ => rfl) _).trans k), h.bt, h.le⟩
theorem row_dropped {α : Type} {w : World} {enc : α → Value} {a : Addr} {cap : Nat} {l : List α} (h : Row w enc (.slice (some a) l.length cap) l) (k : Nat) (hk : k + 1 ≤ l.length) :
    Row w enc (.slice (some ⟨a.block, a.off + (k + 1), none⟩) (l.length - (k + 1)) (cap - (k + 1))) (l.drop (k + 1)) := by
  rcases h with ⟨h, _⟩ | ⟨a', cap', h, hc, hcell⟩
  · cases h
  · injection h with h1 _ h3
    injection h1 with h1
    subst h1; subst h3
    refine .inr ⟨_, cap - (k + 1), by rw [List.length_drop], by rw [List.length_drop]; omega, fun i x hi => ?_⟩
    rw [List.getElem?_drop] at hi
    have := hcell (k + 1 + i) x hi
    rw [← this]
    congr 1
    unfold Addr.add
    by_cases h1 : i = 0
    · subst h1; simp
    · rw [if_neg h1, if_neg (by omega)]
      simp only [Addr.mk.injEq, true_and, and_true]
      omega
theorem row_dropped0 {α : Type} {w : World} {enc : α → Value} {a : Addr} {cap : Nat} {l : List α} (h : Row w enc (.slice (some a) l.length cap) l) (k : Nat) (hk : cap = k) :
    Row w enc (.slice (some a) (l.length - k) 0) (l.drop k) := by
  rcases h with ⟨h, _⟩ | ⟨a', cap', h, hc, hcell⟩
  · cases h
  · injection h with h1 _ h3
    have e : l.drop k = [] := List.drop_of_length_le (by omega)
    rw [e]
    exact .inr ⟨a, 0, by rw [show l.length - k = 0 by omega]; rfl, Nat.le_refl _, fun i x hi => by simp at hi⟩
/-- The first cell is another slice. -/
theorem Ey.cut {w : World} {e : Nat} {v v' : Value} {l : List Nat} {bad : Bool} (h : Ey w e v l bad) (k : Nat) (hv : ∀ wx, Row wx enc8 v l → Row wx enc8 v' (l.drop k)) : Ey (w.setCell ⟨e, 0, none⟩ v') e v' (l.drop k) bad :=
  ⟨h.c.set 0 v', fun wx j => hv wx (h.r wx ((Keep.setCell (S := fun i => i = e) (Keep.refl _ w) (p := ⟨e, 0, none⟩) (fun _ => rfl) _).trans j)), fun x hx => h.bt x (List.mem_of_mem_drop hx), by have := h.le; rw [List.length_drop]; omega⟩
theorem keep_one (w : World) (e i : Nat) (v : Value) : Keep (fun j => j = e) w (w.setCell ⟨e, i, none⟩ v) := Keep.setCell (S := fun i => i = e) (Keep.refl _ w) (p := ⟨e, i, none⟩) (fun _ => rfl) _
theorem num_or {b p k : Nat} (h9 : k ≤ 9) (hb : b < 256) (hp : p < 128 ^ k) (hf : b % 128 * 128 ^ k < 2 ^ 64) :
    bits .or .u64 (p : Int) (IntKind.u64.wrap (IntKind.u64.wrap (bits .and .u8 (b : Int) 127) * 2 ^ (7 * k))) = ((p + b % 128 * 128 ^ k : Nat) : Int) := by
  have e1 : bits .and .u8 (b : Int) 127 = ((b % 128 : Nat) : Int) := by
    have := bits_and (k := .u8) rfl (m := b) (n := 127) hb (by decide)
    rw [show (127 : Nat) = 2 ^ 7 - 1 from rfl, Nat.and_two_pow_sub_one_eq_mod] at this
    exact this
  have e2 : (128 : Nat) ^ k = 2 ^ (7 * k) := by rw [Nat.pow_mul]
  have h1 : b % 128 < 2 ^ 64 := Nat.lt_of_lt_of_le (Nat.mod_lt _ (by omega)) (by decide)
  have e3 : ((b % 128 : Nat) : Int) * 2 ^ (7 * k) = ((b % 128 * 2 ^ (7 * k) : Nat) : Int) := by simp
  rw [e2] at hp hf
  have hp64 : p < 2 ^ 64 := by
    by_cases h0 : b % 128 = 0
    · have : k ≤ 9 := h9
      have h2 : 2 ^ (7 * k) ≤ 2 ^ 63 := Nat.pow_le_pow_right (by omega) (by omega)
      omega
    · have : 2 ^ (7 * k) ≤ b % 128 * 2 ^ (7 * k) := Nat.le_mul_of_pos_left _ (by omega)
      omega
  rw [e1, wrap_lt (k := .u64) rfl h1, e3, wrap_lt (k := .u64) rfl hf, bits_or (k := .u64) rfl hp64 hf, e2, Nat.or_comm, Nat.mul_comm, ← Nat.two_pow_add_eq_or_of_lt hp, Nat.add_comm]
set_option maxHeartbeats 16000000 in
theorem num_calls {w : World} {e : Nat} {v : Value} {l : List Nat} (h : Ey w e v l false) (most : Nat) :
    Calls Try.prog 12 #[.pointer (some ⟨e, 0, none⟩), .int .u64 (most : Int)] w (NumP w e (numS l false most)) := by
  have HE := Lib.hid h
  obtain ⟨a, cap, rfl⟩ := (h.r w (Keep.refl _ w)).form
  have c0 := h.c.cellAt (i := 0) rfl
  have c1 := h.c.cellAt (i := 1) rfl
  have f0 := h.c.unfrozen 0
  have f1 := h.c.unfrozen 1
  have hle := h.le
  have NS := Lib.hid (show numS l false most = match numA 0 l with
    | some (x, n) => if x ≤ most then (x, l.drop n, false) else (0, l, true)
    | none => (0, l, true) from rfl)
  generalize numS l false most = res at *
  have J0 := Lib.hid (numJ_zero l)
  clear h
  go_enter Try.func12, Try.ntmps12
  go_upto_region 3 with (fail)
  go_loop [5, 13] (fun x i => ∃ k : Nat, k ≤ l.length ∧ k ≤ 10 ∧ i = .int .i64 k ∧ x = .int .u64 (numP (l.take k)) ∧ numJ l k) (fun _ i => l.length - (intOf i).toNat)
  case atStart => exact ⟨0, Nat.zero_le _, by omega, rfl, rfl, J0.out⟩
  case round =>
    clear J0
    obtain ⟨k, hk, h10, rfl, rfl, j1⟩ := hrel
    have J1 := Lib.hid j1
    clear j1
    by_cases hlt : k < l.length
    · obtain ⟨ad, rfl, hcp⟩ : ∃ ad, a = some ad ∧ w.cell? (ad.add k) = some (.int .u8 ((l[k] : Nat) : Int)) := by
        rcases HE.out.r w (Keep.refl _ w) with ⟨h, h0⟩ | ⟨ad, c', h, _, hc⟩
        · rw [h0] at hlt; simp at hlt
        · injection h with h1 _ _
          exact ⟨ad, h1, hc k _ (List.getElem?_eq_getElem hlt)⟩
      have hb := HE.out.bt l[k] (List.getElem_mem hlt)
      by_cases hs : stopB k l[k]
      · have RS : Hid (res = (0, l, true)) := by show res = _; rw [NS.out, numJ_stop J1.out hlt hs]
        unfold stopB at hs
        generalize l[k] = b at *
        have hb0 : 0 ≤ (b : Int) := by omega
        have hb1 : (b : Int) < 256 := by omega
        have hs3 : 9 < (k : Int) ∨ ((k : Int) = 9 ∧ 1 < (b : Int)) ∨ (0 < (k : Int) ∧ (b : Int) = 0) := by omega
        clear hs hb NS
        generalize (b : Int) = bi at *
        generalize ((numP (l.take k) : Nat) : Int) = wi at *
        rcases (by omega : 9 < (k : Int) ∨ (¬ 9 < (k : Int) ∧ 0 < (k : Int) ∧ bi = 0) ∨ (¬ 9 < (k : Int) ∧ 0 < (k : Int) ∧ ¬ bi = 0 ∧ (k : Int) = 9 ∧ 1 < bi)) with h1 | ⟨h1, h2, h3⟩ | ⟨h1, h2, h3, h4, h5⟩
        · clear hs3
          go_wp2
          all_goals
            go_ret
            rw [show res = _ from RS.out]
            exact ⟨_, rfl, keep_one _ _ _ _, HE.out.set true⟩
        · clear hs3
          have hbz : (bi == 0) = true := beq_iff_eq.2 h3
          clear h3
          go_wp2
          all_goals
            go_ret
            rw [show res = _ from RS.out]
            exact ⟨_, rfl, keep_one _ _ _ _, HE.out.set true⟩
        · clear hs3
          have n9 : ((k : Int) == 9) = true := beq_iff_eq.2 h4
          clear h4 h3
          go_wp2
          all_goals
            go_ret
            rw [show res = _ from RS.out]
            exact ⟨_, rfl, keep_one _ _ _ _, HE.out.set true⟩
      · have hs2 := hs
        unfold stopB at hs2
        have R := Lib.hid (fun hb => numJ_step J1.out hlt hs hb)
        have R2 := Lib.hid (fun hb => numJ_last J1.out hlt hs hb)
        have TK := Lib.hid (show numP (l.take (k + 1)) = numP (l.take k) + l[k] % 128 * 128 ^ k by rw [List.take_succ_eq_append_getElem hlt, numP_snoc, List.length_take, Nat.min_eq_left (Nat.le_of_lt hlt)])
        have hk0 : 0 ≤ (k : Int) := by omega
        have hk9 : (k : Int) ≤ 9 := by omega
        have OR := Lib.hid (num_or (numP_fit hlt hs).2 hb (by have := numP_lt (l.take k); rw [List.length_take, Nat.min_eq_left hk] at this; exact this) (numP_fit hlt hs).1)
        rw [← TK.out] at OR
        clear TK hs
        have hc : (((k : Int) == 9) = false ∧ (k : Int) ≤ 0) ∨ (((k : Int) == 9) = false ∧ 0 < (k : Int) ∧ (((l[k] : Nat) : Int) == 0) = false) ∨ (((k : Int) == 9) = true ∧ 0 < (k : Int) ∧ (((l[k] : Nat) : Int) == 0) = false ∧ ¬ 1 < ((l[k] : Nat) : Int)) := by
          rcases (by omega : k = 0 ∨ (0 < k ∧ k < 9) ∨ k = 9) with h0 | h0 | h0
          · exact .inl ⟨beq_false_of_ne (by omega), by omega⟩
          · exact .inr (.inl ⟨beq_false_of_ne (by omega), by omega, beq_false_of_ne (by omega)⟩)
          · exact .inr (.inr ⟨beq_iff_eq.2 (by omega), by omega, beq_false_of_ne (by omega), by omega⟩)
        generalize l[k] = b at *
        have hb0 : 0 ≤ (b : Int) := by omega
        have hb1 : (b : Int) < 256 := by omega
        generalize hTN : numP (l.take (k + 1)) = nw at *
        have TN := Lib.hid hTN
        clear hTN
        by_cases hb7 : b < 128
        · have hb7i : (b : Int) < 128 := by omega
          have NV := Lib.hid (R2.out hb7)
          clear R R2 hb hb7 hs2
          generalize (b : Int) = bi at *
          generalize ((numP (l.take k) : Nat) : Int) = wi at *
          by_cases hm : nw ≤ most
          · have hmi : (nw : Int) ≤ (most : Int) := by omega
            have RS : Hid (res = (nw, l.drop (k + 1), false)) := by show res = _; rw [NS.out, NV.out]; exact if_pos hm
            have HI := Lib.hid hmi
            clear hm hmi
            rcases hc with ⟨n9, g0⟩ | ⟨n9, g0, hbz⟩ | ⟨n9, g0, hbz, hb2⟩
            all_goals
              go_upto_region 8 with (fail)
              rw [OR.out]
              have hmi := HI.out
              generalize hnw : (nw : Int) = nwi at *
              have HNW := Lib.hid hnw
              clear hnw
              go_wp2
              all_goals
                go_ret
                rw [show res = _ from RS.out]
              · exact ⟨_, ret_int HNW.out.symm, keep_one _ _ _ _, HE.out.cut (k + 1) fun wx hr => row_dropped0 hr (k + 1) (by omega)⟩
              · exact ⟨_, ret_int HNW.out.symm, keep_one _ _ _ _, HE.out.cut (k + 1) fun wx hr => row_dropped hr k (by omega)⟩
          · have hmi : ¬ (nw : Int) ≤ (most : Int) := by omega
            have RS : Hid (res = (0, l, true)) := by show res = _; rw [NS.out, NV.out]; exact if_neg hm
            have HI := Lib.hid hmi
            clear hm hmi
            rcases hc with ⟨n9, g0⟩ | ⟨n9, g0, hbz⟩ | ⟨n9, g0, hbz, hb2⟩
            all_goals
              go_upto_region 8 with (fail)
              rw [OR.out]
              have hmi := HI.out
              generalize (nw : Int) = nwi at *
              go_wp2
              go_ret
              rw [show res = _ from RS.out]
              exact ⟨_, rfl, keep_one _ _ _ _, HE.out.set true⟩
        · have hb7i : ¬ (b : Int) < 128 := by omega
          have JV := Lib.hid (R.out hb7)
          clear R R2 hb hb7 hs2
          generalize (b : Int) = bi at *
          generalize ((numP (l.take k) : Nat) : Int) = wi at *
          rcases hc with ⟨n9, g0⟩ | ⟨n9, g0, hbz⟩ | ⟨n9, g0, hbz, hb2⟩
          rotate_right
          · exfalso; omega
          all_goals
            go_wp2
            go_round
            case rel => exact ⟨k + 1, by omega, by omega, by go_num, by rw [OR.out, TN.out], JV.out⟩
            case measure => simp [intOf]; omega
    · have RS : Hid (res = (0, l, true)) := by show res = _; rw [NS.out, numJ_end J1.out (by omega)]
      clear NS J1
      generalize ((numP (l.take k) : Nat) : Int) = wi at *
      go_wp2
      go_ret
      rw [show res = _ from RS.out]
      exact ⟨_, rfl, keep_one _ _ _ _, HE.out.set true⟩
set_option maxHeartbeats 1000000 in
theorem num_bad {w : World} {e : Nat} {v : Value} {l : List Nat} (h : Ey w e v l true) (most : Nat) :
    Calls Try.prog 12 #[.pointer (some ⟨e, 0, none⟩), .int .u64 (most : Int)] w (NumP w e (numS l true most)) := by
  have HE := Lib.hid h
  have RS : Hid (numS l true most = (0, l, true)) := rfl
  generalize numS l true most = res at *
  obtain ⟨a, cap, hv⟩ := (h.r w (Keep.refl _ w)).form
  have hr := h.r w (Keep.refl _ w)
  have c0 := h.c.cellAt (i := 0) rfl
  have c1 := h.c.cellAt (i := 1) rfl
  have f0 := h.c.unfrozen 0
  have f1 := h.c.unfrozen 1
  have hle := h.le
  rw [hv] at c0 hr
  clear h hv
  by_cases h0 : l.length = 0
  · rw [h0] at c0
    clear hr
    go_enter Try.func12, Try.ntmps12
    go_upto_region 3 with (fail)
    refine wp_loop_rounds 1 ?_
    rw [rounds_succ]
    go_wp2
    go_ret
    rw [show res = _ from RS.out]
    exact ⟨_, rfl, keep_one _ _ _ _, HE.out.set true⟩
  · obtain ⟨ad, x, rfl, hcp⟩ : ∃ ad x, a = some ad ∧ w.cell? (ad.add 0) = some (.int .u8 x) := by
      rcases hr with ⟨_, h1⟩ | ⟨ad, c', h, _, hc⟩
      · rw [h1] at h0; simp at h0
      · injection h with h1 _ _
        have hx : l[0]? = some l[0] := List.getElem?_eq_getElem (by omega)
        exact ⟨ad, _, h1, hc 0 _ hx⟩
    have hl0 : 0 < (l.length : Int) := by omega
    clear hr
    rw [show ad.add 0 = ad by unfold Addr.add; simp] at hcp
    go_enter Try.func12, Try.ntmps12
    go_upto_region 3 with (fail)
    refine wp_loop_rounds 1 ?_
    rw [rounds_succ]
    go_wp2
    go_ret
    rw [show res = _ from RS.out]
    exact ⟨_, rfl, keep_one _ _ _ _, HE.out.set true⟩
theorem newEye_calls (a : Option Addr) (n cap : Nat) (w : World) : Calls Try.prog 11 #[.slice a n cap] w fun e w' => e = .returned (.pointer (some ⟨w.heap.size, 0, none⟩)) ∧ w' = w.alloc (.cells #[.slice a n cap, .bool false] 54) := by
  go_enter Try.func11, Try.ntmps11
  go_wp2
  go_ret
  exact ⟨rfl, rfl⟩
theorem bad_calls {w : World} {e : Nat} {v : Value} {l : List Nat} {bad : Bool} (h : Ey w e v l bad) : Calls Try.prog 13 #[.pointer (some ⟨e, 0, none⟩)] w fun en w' => en = .returned (.bool bad) ∧ w = w' := by
  have c1 := h.c.cellAt (i := 1) rfl
  clear h
  go_enter Try.func13, Try.ntmps13
  go_wp2
  go_ret
  exact ⟨rfl, rfl⟩
theorem done_calls {w : World} {e : Nat} {v : Value} {l : List Nat} {bad : Bool} (h : Ey w e v l bad) : Calls Try.prog 14 #[.pointer (some ⟨e, 0, none⟩)] w fun en w' => en = .returned (.bool (!bad && l.length == 0)) ∧ w = w' := by
  obtain ⟨a, cap, hv⟩ := (h.r w (Keep.refl _ w)).form
  have c0 := h.c.cellAt (i := 0) rfl
  have c1 := h.c.cellAt (i := 1) rfl
  rw [hv] at c0
  clear h hv
  cases bad with
  | true =>
    go_enter Try.func14, Try.ntmps14
    go_wp2
    go_ret
    exact ⟨rfl, rfl⟩
  | false =>
    go_enter Try.func14, Try.ntmps14
    go_wp2
    go_ret
    refine ⟨ret_bool ?_, rfl⟩
    by_cases h : l.length = 0
    · simp [h]
    · rw [beq_false_of_ne h, beq_false_of_ne (by omega)]; rfl
end Go.Proofs.Ytpimjioamoaejaa.Walks
