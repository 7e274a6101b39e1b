/- Walks through the functions of the statement, and the statement over them: each contract says what the call answers and that nothing else changes. -/
import Derived.Test.YteenaokcfhlemaaProg
import Derived.Laws.BytesString
import Derived.Test.YteenaokcfhlemaaBits
import Derived.Test.YteenaokcfhlemaaHeap
import Derived.Test.YteenaokcfhlemaaAid
import Derived.Lib.Hide
import Derived.Test.YteenaokcfhlemaaArr
import Derived.Test.YteenaokcfhlemaaEql
import Derived.Test.YteenaokcfhlemaaWalkPack
import Derived.Test.YteenaokcfhlemaaWalkStore

import Derived.WalkKit
import Derived.WalkSpells
import Derived.WalkLawsBesides
import Derived.Deep.QuietTactic
import Derived.BigQuiet
import Derived.Deep.RegionHeld3
import Derived.Deep.DeepCutAuto
import Derived.Deep.CutBlock
import Derived.Lib.SlBytesConst
import Derived.StillTailTactics
import Derived.Laws.MakeOwn
import Derived.Deep.AppendLies
import Derived.Laws.CopyOwn
import Derived.Maps.AppendAt
import Derived.Deep.Upon
import Derived.Deep.AppendSrc
import Derived.RegionTactic
namespace Go.Proofs.Yteenaokcfhlemaa.Walks
set_option linter.unusedVariables false
set_option linter.unusedSimpArgs false
open Go.RowKit Go.Proofs.Yteenaokcfhlemaa.Bits Go.Proofs.Yteenaokcfhlemaa.Heap Go.Proofs.Yteenaokcfhlemaa.Aid Go.Proofs.Yteenaokcfhlemaa.Arr Go.Proofs.Yteenaokcfhlemaa.Eql

/-- A word of a store. -/
def wd (L : List Nat) (k i : Nat) : Nat := ofB ((L.drop (256 * k + 8 * i)).take 8)
theorem splice8_get {L s : List Nat} {a : Nat} (h : a + s.length ≤ L.length) (j : Nat) : (splice8 L a s)[j]? = if j < a then L[j]? else if j < a + s.length then s[j - a]? else L[j]? := by
  unfold splice8
  rw [List.append_assoc]
  by_cases h1 : j < a
  · rw [if_pos h1, List.getElem?_append_left (by rw [List.length_take]; omega), List.getElem?_take, if_pos h1]
  · rw [if_neg h1, List.getElem?_append_right (by rw [List.length_take]; omega), List.length_take, Nat.min_eq_left (by omega)]
    by_cases h2 : j < a + s.length
    · rw [if_pos h2, List.getElem?_append_left (by omega)]
    · rw [if_neg h2, List.getElem?_append_right (by omega), List.getElem?_drop]
      congr 1; omega
theorem wd_put {L : List Nat} {k i v : Nat} (hk : k < L.length / 256) (hi : i < 32) (hv : v < 2 ^ 64) (k' i' : Nat) (hi' : i' < 32) :
    wd (splice8 L (256 * k + 8 * i) (leB 8 v)) k' i' = if k' = k ∧ i' = i then v else wd L k' i' := by
  have hlen : 256 * k + 8 * i + (leB 8 v).length ≤ L.length := by rw [leB_length]; omega
  unfold wd
  by_cases h : k' = k ∧ i' = i
  · obtain ⟨rfl, rfl⟩ := h
    rw [if_pos ⟨rfl, rfl⟩]
    have e : ((splice8 L (256 * k' + 8 * i') (leB 8 v)).drop (256 * k' + 8 * i')).take 8 = leB 8 v := by
      apply List.ext_getElem?
      intro j
      rw [List.getElem?_take]
      by_cases hj : j < 8
      · rw [if_pos hj, List.getElem?_drop, splice8_get hlen, if_neg (by omega), if_pos (by rw [leB_length]; omega)]
        congr 1; omega
      · rw [if_neg hj, List.getElem?_eq_none (by rw [leB_length]; omega)]
    rw [e]
    have := ofB_leB8 hv
    rw [List.take_of_length_le (by rw [leB_length]; omega)] at this
    exact this
  · rw [if_neg h]
    congr 1
    apply List.ext_getElem?
    intro j
    rw [List.getElem?_take, List.getElem?_take]
    by_cases hj : j < 8
    · rw [if_pos hj, if_pos hj, List.getElem?_drop, List.getElem?_drop, splice8_get hlen, leB_length]
      have : 256 * k' + 8 * i' + j < 256 * k + 8 * i ∨ 256 * k + 8 * i + 8 ≤ 256 * k' + 8 * i' + j := by
        rcases Nat.lt_or_ge k' k with h1 | h1
        · left; omega
        · rcases Nat.lt_or_ge k k' with h2 | h2
          · right; omega
          · have h3 : k' = k := by omega
            subst h3
            rcases Nat.lt_or_ge i' i with h4 | h4
            · left; omega
            · right
              have : i' ≠ i := fun e => h ⟨rfl, e⟩
              omega
      rcases this with h1 | h1
      · rw [if_pos h1]
      · rw [if_neg (by omega), if_neg (by omega)]
    · rw [if_neg hj, if_neg hj]
theorem wd_lt {L : List Nat} (hL : ∀ x ∈ L, x < 256) (k i : Nat) : wd L k i < 2 ^ 64 := by
  unfold wd
  have h := ofB_lt ((L.drop (256 * k + 8 * i)).take 8) (fun x hx => hL x (List.mem_of_mem_drop (List.mem_of_mem_take hx)))
  have h2 : (256 : Nat) ^ ((L.drop (256 * k + 8 * i)).take 8).length ≤ 256 ^ 8 := Nat.pow_le_pow_right (by omega) (by rw [List.length_take]; omega)
  have h3 : (256 : Nat) ^ 8 = 2 ^ 64 := by decide
  omega
theorem wd_zero (n k i : Nat) : wd (List.replicate n 0) k i = 0 := by
  unfold wd
  have : ∀ l : List Nat, (∀ x ∈ l, x = 0) → ofB l = 0 := by
    intro l
    induction l with
    | nil => intro _; rfl
    | cons x r ih => intro h; rw [ofB, h x (by simp), ih (fun y hy => h y (by simp [hy]))]
  apply this
  intro x hx
  have := List.mem_of_mem_drop (List.mem_of_mem_take hx)
  rw [List.mem_replicate] at this
  exact this.2
def encI (n : Int) : Value := .int .i64 n
def tabV (f : Int) (fv : Value) : Value := .agg #[.int .i64 f, fv]
def leafR (th : Bool) (fr : Int) (page : Int) : Value := if th then .tuple #[.int .i64 fr, .int .i64 (page % 8), .int .i64 0] else .tuple #[.int .i64 0, .int .i64 0, .int .i64 11]
theorem sizeT : (Try.prog.info? 35).map (·.size) = some 2 := by kernel_rfl
set_option maxHeartbeats 4000000 in
theorem leaf_bad (f : Int) (a : Option Addr) (n cap : Nat) (P : Value) (page : Int) (hb : page < 0 ∨ 32 ≤ page ∨ n = 0) (w : World) :
    Calls Try.prog 21 #[.agg #[.int .i64 f, .slice a n cap], P, .int .i64 page] w fun e w' => e = .returned (.tuple #[.int .i64 0, .int .i64 0, .int .i64 1]) ∧ Below w.heap.size w w' := by
  have X1 := Lib.hid (Own.new (Below.refl _ w) #[.int .i64 f, .slice a n cap] 35)
  rcases (by omega : page < 0 ∨ (¬ page < 0 ∧ 32 ≤ page) ∨ (¬ page < 0 ∧ ¬ 32 ≤ page ∧ n = 0)) with h | ⟨h, h2⟩ | ⟨h, h2, h3⟩
  · clear hb
    go_enter Try.func21, Try.ntmps21
    go_upto_region 1 with (fail)
    generalize w.alloc _ = w1 at *
    go_wp2_with fail
    go_ret3
    exact ⟨rfl, X1.out.bel⟩
  · clear hb
    go_enter Try.func21, Try.ntmps21
    go_upto_region 1 with (fail)
    generalize w.alloc _ = w1 at *
    go_wp2_with fail
    go_ret3
    exact ⟨rfl, X1.out.bel⟩
  · subst h3
    clear hb
    go_enter Try.func21, Try.ntmps21
    go_upto_region 1 with (fail)
    generalize w.alloc _ = w1 at *
    have d1 := X1.out.cell (i := 1) rfl
    go_wp2_with fail
    go_ret3
    exact ⟨rfl, X1.out.bel⟩
set_option maxHeartbeats 4000000 in
theorem leaf_calls {p q : Nat} {L : List Nat} {w : World} (h : St w p q L) (f : Int) (fv : Value) (f0 : Nat) (fs : List Int) (hr : Row w encI fv ((f0 : Int) :: fs)) (hf0 : f0 < L.length / 256) (page : Nat) (hp : page < 32) {th : Bool} {fr : Int} {wr ok : Bool}
    (hu : unV f (wd L f0 (page / 8)) = .tuple #[.agg #[.bool th, .int .i64 fr, .bool wr], .bool ok]) (hok : ok = true ∨ th = false) :
    Calls Try.prog 21 #[tabV f fv, .pointer (some ⟨p, 0, none⟩), .int .i64 (page : Int)] w fun e w' => e = .returned (leafR th fr (page : Int)) ∧ Below w.heap.size w w' := by
  obtain ⟨a, cap, rfl⟩ := hr.form
  obtain ⟨ad, rfl⟩ : ∃ ad, a = some ad := by
    rcases hr with ⟨_, h0⟩ | ⟨ad, c, h1, _, _⟩
    · cases h0
    · injection h1 with h1 _ _; exact ⟨ad, h1⟩
  have hc : w.cell? ad = some (.int .i64 (f0 : Int)) := by
    rcases hr with ⟨_, h0⟩ | ⟨ad', c, h1, _, hc⟩
    · cases h0
    · injection h1 with h1 _ _
      injection h1 with h1
      subst h1
      have := hc 0 _ rfl
      rw [show ad.add 0 = ad by unfold Addr.add; simp] at this
      exact this
  have X1 := Lib.hid (Own.new (Below.refl _ w) #[.int .i64 f, .slice (some ad) ((f0 : Int) :: fs).length cap] 35)
  have hb1 := (Below.refl w.heap.size w).alloc (Nat.le_refl _) (.cells #[.int .i64 f, .slice (some ad) ((f0 : Int) :: fs).length cap] 35)
  have LD := Lib.hid (load_calls (h.below hb1) f0 (page / 8) hf0 (by omega))
  rw [show ofB ((L.drop (256 * f0 + 8 * (page / 8))).take 8) = wd L f0 (page / 8) from rfl] at LD
  rw [show ((page / 8 : Nat) : Int) = (page : Int) / 8 by omega] at LD
  have UN := Lib.hid (fun W => unpack_calls f _ (wd_lt h.bt f0 (page / 8)) W)
  rw [hu] at UN
  have c1 : (w.alloc (.cells #[.int .i64 f, .slice (some ad) ((f0 : Int) :: fs).length cap] 35)).cell? ad = some (.int .i64 (f0 : Int)) := by
    rw [hb1.cell (World.block_lt_of_cell? w _ hc), hc]
  have hp0 : 0 ≤ (page : Int) := by omega
  have hp1 : (page : Int) < 32 := by omega
  have hl0 : ((((f0 : Int) :: fs).length : Int) == 0) = false := beq_false_of_ne (by simp only [List.length_cons]; omega)
  have hl1 : 0 < (((f0 : Int) :: fs).length : Int) := by simp only [List.length_cons]; omega
  clear h hr hc hb1 hu
  unfold tabV
  generalize (((f0 : Int) :: fs).length) = n at *
  generalize ((wd L f0 (page / 8) : Nat) : Int) = wv at *
  generalize (page : Int) = pg at *
  generalize (f0 : Int) = fi at *
  go_enter Try.func21, Try.ntmps21
  go_upto_region 1 with (fail)
  generalize w.alloc _ = w1 at *
  have d0 := X1.out.cell (i := 0) rfl
  have d1 := X1.out.cell (i := 1) rfl
  go_upto_region 4 with (go_at_call 13; refine LD.out.mono ?_; rintro e w2 ⟨rfl, u2⟩; have X2 := Lib.hid (X1.out.step u2); clear u2)
  clear d0 d1
  have d0 := X2.out.cell (i := 0) rfl
  go_upto_region 5 with (go_at_call 8; refine (UN.out _).mono ?_; rintro e w3 ⟨rfl, u3⟩; have X3 := Lib.hid (X2.out.step u3); clear u3)
  have E4 := Lib.hid (Own.new X3.out.bel #[.bool th, .int .i64 fr, .bool wr] 26)
  clear X1 X2 c1 LD UN X3 d0
  generalize w3.alloc _ = w4 at *
  generalize w3.heap.size = NE at *
  have e0 := E4.out.cell (i := 0) rfl
  have e1 := E4.out.cell (i := 1) rfl
  cases th with
  | false =>
    cases ok
    all_goals
      go_wp2_with fail
      go_ret3
      exact ⟨rfl, E4.out.bel⟩
  | true =>
    obtain rfl : ok = true := by rcases hok with h | h; · exact h
                                 · cases h
    go_wp2_with fail
    go_ret3
    exact ⟨rfl, E4.out.bel⟩
/-- The root's entry of a page leads to a frame. -/
structure Root (L : List Nat) (f : Int) (f0 page g : Nat) : Prop where
  e : ∃ wr : Bool, unV f (wd L f0 (page / 8)) = .tuple #[.agg #[.bool true, .int .i64 (g : Int), .bool wr], .bool true]
  g : g < L.length / 256
theorem leaf_root {p q : Nat} {L : List Nat} {w : World} (h : St w p q L) (f : Int) (fv : Value) (f0 : Nat) (fs : List Int) (hr : Row w encI fv ((f0 : Int) :: fs)) (hf0 : f0 < L.length / 256) (page : Nat) (hp : page < 32) {g : Nat} (hg : Root L f f0 page g) :
    Calls Try.prog 21 #[tabV f fv, .pointer (some ⟨p, 0, none⟩), .int .i64 (page : Int)] w fun e w' => e = .returned (.tuple #[.int .i64 (g : Int), .int .i64 ((page : Int) % 8), .int .i64 0]) ∧ Below w.heap.size w w' := by
  obtain ⟨wr, hu⟩ := hg.e
  exact leaf_calls h f fv f0 fs hr hf0 page hp hu (.inl rfl)
set_option maxHeartbeats 2000000 in
theorem map_bad (f : Int) (a : Option Addr) (n cap : Nat) (P : Value) (page fr : Int) (wr : Bool) (hb : page < 0 ∨ 32 ≤ page ∨ n = 0) (w : World) :
    Calls Try.prog 12 #[.agg #[.int .i64 f, .slice a n cap], P, .int .i64 page, .int .i64 fr, .bool wr] w fun e w' => e = .returned (.int .i64 1) ∧ Below w.heap.size w w' := by
  have X1 := Lib.hid (Own.new (Below.refl _ w) #[.int .i64 f, .slice a n cap] 35)
  have LC := Lib.hid (fun W => leaf_bad f a n cap P page hb W)
  have I2 := Lib.hid sizeT
  clear hb
  go_enter Try.func12, Try.ntmps12
  go_upto_region 1 with (fail)
  generalize w.alloc _ = w1 at *
  go_wp2_with (first
    | ((with_reducible refine load_gate (35) (5) ?_); refine wpList_load_mid rfl 35 (.tmp 5) rfl w.heap.size 0 rfl [.int .i64 f, .slice a n cap] _ X1.out.all Try.underlying35 rfl I2.out ?_)
    | (go_at_call 21; refine (LC.out _).mono ?_; rintro e w2 ⟨rfl, u2⟩; have X2 := Lib.hid (X1.out.step u2); clear u2))
  go_ret
  exact ⟨rfl, X2.out.bel⟩
set_option maxHeartbeats 2000000 in
theorem unmap_bad (f : Int) (a : Option Addr) (n cap : Nat) (P : Value) (page : Int) (hb : page < 0 ∨ 32 ≤ page ∨ n = 0) (w : World) :
    Calls Try.prog 14 #[.agg #[.int .i64 f, .slice a n cap], P, .int .i64 page] w fun e w' => e = .returned (.int .i64 1) ∧ Below w.heap.size w w' := by
  have X1 := Lib.hid (Own.new (Below.refl _ w) #[.int .i64 f, .slice a n cap] 35)
  have LC := Lib.hid (fun W => leaf_bad f a n cap P page hb W)
  have I2 := Lib.hid sizeT
  clear hb
  go_enter Try.func14, Try.ntmps14
  go_upto_region 1 with (fail)
  generalize w.alloc _ = w1 at *
  go_wp2_with (first
    | ((with_reducible refine load_gate (35) (3) ?_); refine wpList_load_mid rfl 35 (.tmp 3) rfl w.heap.size 0 rfl [.int .i64 f, .slice a n cap] _ X1.out.all Try.underlying35 rfl I2.out ?_)
    | (go_at_call 21; refine (LC.out _).mono ?_; rintro e w2 ⟨rfl, u2⟩; have X2 := Lib.hid (X1.out.step u2); clear u2))
  go_ret
  exact ⟨rfl, X2.out.bel⟩
set_option maxHeartbeats 2000000 in
theorem walk_bad (f : Int) (a : Option Addr) (n cap : Nat) (P : Value) (page : Int) (hb : page < 0 ∨ 32 ≤ page ∨ n = 0) (w : World) :
    Calls Try.prog 15 #[.agg #[.int .i64 f, .slice a n cap], P, .int .i64 page] w fun e w' => e = .returned (.tuple #[.agg #[.bool false, .int .i64 0, .bool false], .int .i64 1]) ∧ Below w.heap.size w w' := by
  have X1 := Lib.hid (Own.new (Below.refl _ w) #[.int .i64 f, .slice a n cap] 35)
  have LC := Lib.hid (fun W => leaf_bad f a n cap P page hb W)
  have I2 := Lib.hid sizeT
  have R1 := Lib.hid (Own.new X1.out.bel #[.bool false, .int .i64 0, .bool false] 26)
  have X1b := Lib.hid (X1.out.alloc (.cells #[.bool false, .int .i64 0, .bool false] 26))
  have hsz : (w.alloc (.cells #[.int .i64 f, .slice a n cap] 35)).heap.size = w.heap.size + 1 := by simp
  rw [hsz] at R1
  clear hb hsz X1
  go_enter Try.func15, Try.ntmps15
  go_upto_region 1 with (fail)
  generalize World.alloc (World.alloc w _) _ = w1 at *
  go_upto_region 3 with (first
    | ((with_reducible refine load_gate (35) (3) ?_); refine wpList_load_mid rfl 35 (.tmp 3) rfl w.heap.size 0 rfl [.int .i64 f, .slice a n cap] _ X1b.out.all Try.underlying35 rfl I2.out ?_)
    | (go_at_call 21; refine (LC.out _).mono ?_; rintro e w2 ⟨rfl, u2⟩; have R2 := Lib.hid (R1.out.step u2); clear u2))
  have e0 := R2.out.cell (i := 0) rfl
  have e1 := R2.out.cell (i := 1) rfl
  have e2 := R2.out.cell (i := 2) rfl
  have f0 := R2.out.fro 0
  have f1 := R2.out.fro 1
  have f2 := R2.out.fro 2
  have R4 := Lib.hid (((R2.out.set 0 (.bool false)).set 1 (.int .i64 0)).set 2 (.bool false))
  go_wp2_with fail
  exact bodyPost_ret (v := .tuple #[.agg #[.bool false, .int .i64 0, .bool false], .int .i64 1]) (results_ct Try.results15 _ _ (w.heap.size + 1) [.bool false, .int .i64 0, .bool false] _ rfl R4.out.all Try.underlying26 rfl (by kernel_rfl)) rfl ⟨rfl, R4.out.bel⟩
theorem row_form {w : World} {fv : Value} {l : List Int} (h : Row w encI fv l) : ∃ a cap, fv = .slice a l.length cap := h.form
set_option maxHeartbeats 4000000 in
theorem map_calls {p q : Nat} {L : List Nat} {w : World} (h : St w p q L) (f : Int) (fv : Value) (f0 : Nat) (fs : List Int) (hr : Row w encI fv ((f0 : Int) :: fs)) (hf0 : f0 < L.length / 256) (page : Nat) (hp : page < 32) {g : Nat} (hg : Root L f f0 page g) (fr : Nat) (hfr : fr < L.length / 256) (wr : Bool) :
    Calls Try.prog 12 #[tabV f fv, .pointer (some ⟨p, 0, none⟩), .int .i64 (page : Int), .int .i64 (fr : Int), .bool wr] w fun e w' => e = .returned (.int .i64 0) ∧ Su p q (splice8 L (256 * g + 8 * (page % 8)) (leB 8 (packN f true (fr : Int) wr))) w w' := by
  obtain ⟨a, cap, rfl⟩ := hr.form
  have hgl := hg.g
  have hN : L.length / 256 ≤ 512 := by have := h.le; omega
  have X1 := Lib.hid (Own.new (Below.refl _ w) #[.int .i64 f, .slice a ((f0 : Int) :: fs).length cap] 35)
  have hb1 := (Below.refl w.heap.size w).alloc (Nat.le_refl _) (.cells #[.int .i64 f, .slice a ((f0 : Int) :: fs).length cap] 35)
  have LC := Lib.hid (leaf_root (h.below hb1) f (.slice a ((f0 : Int) :: fs).length cap) f0 fs (hr.below hb1) hf0 page hp hg)
  unfold tabV at LC
  have FC := Lib.hid (fun W (hb : Below w.heap.size w W) => frames_calls (h.below hb))
  have PC := Lib.hid (fun W => pack_calls f true (fr : Int) wr W)
  have SC := Lib.hid (fun W (hb : Below w.heap.size w W) => save_calls (h.below hb) g (page % 8) (packN f true (fr : Int) wr) hgl (by omega))
  rw [show ((page % 8 : Nat) : Int) = (page : Int) % 8 by omega] at SC
  have I2 := Lib.hid sizeT
  have HB1 := Lib.hid hb1
  have hf1 : 0 ≤ (fr : Int) := by omega
  have hf2 : (fr : Int) < ((L.length / 256 : Nat) : Int) := by omega
  have hf3 : ((L.length / 256 : Nat) : Int) ≤ 512 := by omega
  clear h hr hb1 hg hgl hN hfr
  unfold tabV
  generalize splice8 L (256 * g + 8 * (page % 8)) (leB 8 (packN f true (fr : Int) wr)) = L2 at *
  generalize ((packN f true (fr : Int) wr : Nat) : Int) = pk at *
  generalize (((f0 : Int) :: fs).length) = n at *
  generalize ((L.length / 256 : Nat) : Int) = N at *
  generalize (page : Int) = pg at *
  generalize (fr : Int) = fi at *
  generalize (g : Int) = gi at *
  go_enter Try.func12, Try.ntmps12
  go_upto_region 1 with (fail)
  generalize w.alloc _ = w1 at *
  go_upto_region 6 with (first
    | ((with_reducible refine load_gate (35) (5) ?_); refine wpList_load_mid rfl 35 (.tmp 5) rfl w.heap.size 0 rfl [.int .i64 f, .slice a n cap] _ X1.out.all Try.underlying35 rfl I2.out ?_)
    | (go_at_call 21; refine LC.out.mono ?_; rintro e w2 ⟨rfl, u2⟩; have X2 := Lib.hid (X1.out.step u2); clear u2)
    | (go_at_call 22; refine (FC.out _ X2.out.bel).mono ?_; rintro e w' ⟨rfl, rfl⟩))
  have d0 := X2.out.cell (i := 0) rfl
  go_wp2_with (first
    | (go_at_call 10; refine (PC.out _).mono ?_; rintro e w3 ⟨rfl, u3⟩; have X3 := Lib.hid (X2.out.step u3); clear u3)
    | (go_at_call 23; refine (SC.out _ X3.out.bel).mono ?_; rintro e w4 ⟨rfl, u4⟩; have U4 := Lib.hid (Su.pre X3.out.bel u4); clear u4))
  go_ret
  exact ⟨rfl, U4.out⟩
set_option maxHeartbeats 4000000 in
theorem map_frame {p q : Nat} {L : List Nat} {w : World} (h : St w p q L) (f : Int) (fv : Value) (f0 : Nat) (fs : List Int) (hr : Row w encI fv ((f0 : Int) :: fs)) (hf0 : f0 < L.length / 256) (page : Nat) (hp : page < 32) {g : Nat} (hg : Root L f f0 page g) (fr : Int) (hfr : fr < 0 ∨ ((L.length / 256 : Nat) : Int) ≤ fr) (wr : Bool) :
    Calls Try.prog 12 #[tabV f fv, .pointer (some ⟨p, 0, none⟩), .int .i64 (page : Int), .int .i64 fr, .bool wr] w fun e w' => e = .returned (.int .i64 1) ∧ Below w.heap.size w w' := by
  obtain ⟨a, cap, rfl⟩ := hr.form
  have X1 := Lib.hid (Own.new (Below.refl _ w) #[.int .i64 f, .slice a ((f0 : Int) :: fs).length cap] 35)
  have hb1 := (Below.refl w.heap.size w).alloc (Nat.le_refl _) (.cells #[.int .i64 f, .slice a ((f0 : Int) :: fs).length cap] 35)
  have LC := Lib.hid (leaf_root (h.below hb1) f (.slice a ((f0 : Int) :: fs).length cap) f0 fs (hr.below hb1) hf0 page hp hg)
  unfold tabV at LC
  have FC := Lib.hid (fun W (hb : Below w.heap.size w W) => frames_calls (h.below hb))
  have I2 := Lib.hid sizeT
  have hN : L.length / 256 ≤ 512 := by have := h.le; omega
  have hf3 : ((L.length / 256 : Nat) : Int) ≤ 512 := by omega
  clear h hr hb1 hg hN
  unfold tabV
  generalize (((f0 : Int) :: fs).length) = n at *
  generalize ((L.length / 256 : Nat) : Int) = N at *
  generalize (page : Int) = pg at *
  generalize (g : Int) = gi at *
  rcases (by omega : fr < 0 ∨ (¬ fr < 0 ∧ N ≤ fr)) with hc | ⟨hc, hc2⟩
  all_goals
    clear hfr
    go_enter Try.func12, Try.ntmps12
    go_upto_region 1 with (fail)
    generalize w.alloc _ = w1 at *
    go_wp2_with (first
      | ((with_reducible refine load_gate (35) (5) ?_); refine wpList_load_mid rfl 35 (.tmp 5) rfl w.heap.size 0 rfl [.int .i64 f, .slice a n cap] _ X1.out.all Try.underlying35 rfl I2.out ?_)
      | (go_at_call 21; refine LC.out.mono ?_; rintro e w2 ⟨rfl, u2⟩; have X2 := Lib.hid (X1.out.step u2); clear u2)
      | (go_at_call 22; refine (FC.out _ X2.out.bel).mono ?_; rintro e w' ⟨rfl, rfl⟩))
    go_ret
    exact ⟨rfl, X2.out.bel⟩
set_option maxHeartbeats 4000000 in
theorem unmap_calls {p q : Nat} {L : List Nat} {w : World} (h : St w p q L) (f : Int) (fv : Value) (f0 : Nat) (fs : List Int) (hr : Row w encI fv ((f0 : Int) :: fs)) (hf0 : f0 < L.length / 256) (page : Nat) (hp : page < 32) {g : Nat} (hg : Root L f f0 page g) :
    Calls Try.prog 14 #[tabV f fv, .pointer (some ⟨p, 0, none⟩), .int .i64 (page : Int)] w fun e w' => e = .returned (.int .i64 0) ∧ Su p q (splice8 L (256 * g + 8 * (page % 8)) (leB 8 0)) w w' := by
  obtain ⟨a, cap, rfl⟩ := hr.form
  have hgl := hg.g
  have X1 := Lib.hid (Own.new (Below.refl _ w) #[.int .i64 f, .slice a ((f0 : Int) :: fs).length cap] 35)
  have hb1 := (Below.refl w.heap.size w).alloc (Nat.le_refl _) (.cells #[.int .i64 f, .slice a ((f0 : Int) :: fs).length cap] 35)
  have LC := Lib.hid (leaf_root (h.below hb1) f (.slice a ((f0 : Int) :: fs).length cap) f0 fs (hr.below hb1) hf0 page hp hg)
  unfold tabV at LC
  have SC := Lib.hid (fun W (hb : Below w.heap.size w W) => save_calls (h.below hb) g (page % 8) 0 hgl (by omega))
  rw [show ((page % 8 : Nat) : Int) = (page : Int) % 8 by omega] at SC
  have I2 := Lib.hid sizeT
  clear h hr hb1 hg hgl
  unfold tabV
  generalize splice8 L (256 * g + 8 * (page % 8)) (leB 8 0) = L2 at *
  generalize (((f0 : Int) :: fs).length) = n at *
  generalize (page : Int) = pg at *
  generalize (g : Int) = gi at *
  go_enter Try.func14, Try.ntmps14
  go_upto_region 1 with (fail)
  generalize w.alloc _ = w1 at *
  go_wp2_with (first
    | ((with_reducible refine load_gate (35) (3) ?_); refine wpList_load_mid rfl 35 (.tmp 3) rfl w.heap.size 0 rfl [.int .i64 f, .slice a n cap] _ X1.out.all Try.underlying35 rfl I2.out ?_)
    | (go_at_call 21; refine LC.out.mono ?_; rintro e w2 ⟨rfl, u2⟩; have X2 := Lib.hid (X1.out.step u2); clear u2)
    | (go_at_call 23; refine (SC.out _ X2.out.bel).mono ?_; rintro e w4 ⟨rfl, u4⟩; have U4 := Lib.hid (Su.pre X2.out.bel u4); clear u4))
  go_ret
  exact ⟨rfl, U4.out⟩
def walkR (th : Bool) (fr : Int) (wr : Bool) : Value := if th then .tuple #[.agg #[.bool true, .int .i64 fr, .bool wr], .int .i64 0] else .tuple #[.agg #[.bool false, .int .i64 0, .bool false], .int .i64 11]
set_option maxHeartbeats 4000000 in
theorem walk_calls {p q : Nat} {L : List Nat} {w : World} (h : St w p q L) (f : Int) (fv : Value) (f0 : Nat) (fs : List Int) (hr : Row w encI fv ((f0 : Int) :: fs)) (hf0 : f0 < L.length / 256) (page : Nat) (hp : page < 32) {g : Nat} (hg : Root L f f0 page g) {th : Bool} {fr : Int} {wr ok : Bool}
    (hu : unV f (wd L g (page % 8)) = .tuple #[.agg #[.bool th, .int .i64 fr, .bool wr], .bool ok]) (hok : ok = true ∨ th = false) :
    Calls Try.prog 15 #[tabV f fv, .pointer (some ⟨p, 0, none⟩), .int .i64 (page : Int)] w fun e w' => e = .returned (walkR th fr wr) ∧ Below w.heap.size w w' := by
  obtain ⟨a, cap, rfl⟩ := hr.form
  have hgl := hg.g
  have X1 := Lib.hid (Own.new (Below.refl _ w) #[.int .i64 f, .slice a ((f0 : Int) :: fs).length cap] 35)
  have R1 := Lib.hid (Own.new X1.out.bel #[.bool false, .int .i64 0, .bool false] 26)
  have X1b := Lib.hid (X1.out.alloc (.cells #[.bool false, .int .i64 0, .bool false] 26))
  have hsz : (w.alloc (.cells #[.int .i64 f, .slice a ((f0 : Int) :: fs).length cap] 35)).heap.size = w.heap.size + 1 := by simp
  rw [hsz] at R1
  have hb1 := R1.out.bel
  have LC := Lib.hid (leaf_root (h.below hb1) f (.slice a ((f0 : Int) :: fs).length cap) f0 fs (hr.below hb1) hf0 page hp hg)
  unfold tabV at LC
  have LD := Lib.hid (fun W (hb : Below w.heap.size w W) => load_calls (h.below hb) g (page % 8) hgl (by omega))
  rw [show ofB ((L.drop (256 * g + 8 * (page % 8))).take 8) = wd L g (page % 8) from rfl] at LD
  rw [show ((page % 8 : Nat) : Int) = (page : Int) % 8 by omega] at LD
  have UN := Lib.hid (fun W => unpack_calls f _ (wd_lt h.bt g (page % 8)) W)
  rw [hu] at UN
  have I2 := Lib.hid sizeT
  have I3 := Lib.hid size3
  clear h hr hb1 hg hgl hsz X1 hu
  unfold tabV
  generalize ((wd L g (page % 8) : Nat) : Int) = wv at *
  generalize (((f0 : Int) :: fs).length) = n at *
  generalize (page : Int) = pg at *
  generalize (g : Int) = gi at *
  go_enter Try.func15, Try.ntmps15
  go_upto_region 1 with (fail)
  generalize World.alloc (World.alloc w _) _ = w1 at *
  go_upto_region 5 with (first
    | ((with_reducible refine load_gate (35) (3) ?_); refine wpList_load_mid rfl 35 (.tmp 3) rfl w.heap.size 0 rfl [.int .i64 f, .slice a n cap] _ X1b.out.all Try.underlying35 rfl I2.out ?_)
    | (go_at_call 21; refine LC.out.mono ?_; rintro e w2 ⟨rfl, u2⟩; have R2 := Lib.hid (R1.out.step u2); have X2 := Lib.hid (X1b.out.step u2); clear u2)
    | (go_at_call 13; refine (LD.out _ R2.out.bel).mono ?_; rintro e w3 ⟨rfl, u3⟩; have R3 := Lib.hid (R2.out.step u3); have X3 := Lib.hid (X2.out.step u3); clear u3))
  have d0 := X3.out.cell (i := 0) rfl
  go_upto_region 6 with (go_at_call 8; refine (UN.out _).mono ?_; rintro e w4 ⟨rfl, u4⟩; have R4 := Lib.hid (R3.out.step u4); clear u4)
  have E5 := Lib.hid (Own.new R4.out.bel #[.bool th, .int .i64 fr, .bool wr] 26)
  have R5 := Lib.hid (R4.out.alloc (.cells #[.bool th, .int .i64 fr, .bool wr] 26))
  clear R1 X1b R2 X2 R3 X3 R4 d0 LC LD UN
  generalize w4.alloc _ = w5 at *
  generalize w4.heap.size = NE at *
  have d0 := E5.out.cell (i := 0) rfl
  have e0 := R5.out.cell (i := 0) rfl
  have e1 := R5.out.cell (i := 1) rfl
  have e2 := R5.out.cell (i := 2) rfl
  have f0 := R5.out.fro 0
  have f1 := R5.out.fro 1
  have f2 := R5.out.fro 2
  cases th with
  | false =>
    have R6 := Lib.hid (((R5.out.set 0 (.bool false)).set 1 (.int .i64 0)).set 2 (.bool false))
    cases ok
    all_goals
      go_wp2_with fail
      exact bodyPost_ret (v := .tuple #[.agg #[.bool false, .int .i64 0, .bool false], .int .i64 11]) (results_ct Try.results15 _ _ (w.heap.size + 1) [.bool false, .int .i64 0, .bool false] _ rfl R6.out.all Try.underlying26 rfl (by kernel_rfl)) rfl ⟨rfl, R6.out.bel⟩
  | true =>
    have hok2 : ok = true := by
      rcases hok with h | h
      · exact h
      · cases h
    subst hok2
    have R6 := Lib.hid (((R5.out.set 0 (.bool true)).set 1 (.int .i64 fr)).set 2 (.bool wr))
    go_wp2_with ((with_reducible refine load_gate (26) (12) ?_); refine wpList_load_mid rfl 26 (.tmp 12) rfl NE 0 rfl [.bool true, .int .i64 fr, .bool wr] _ E5.out.all Try.underlying26 rfl I3.out ?_)
    exact bodyPost_ret (v := .tuple #[.agg #[.bool true, .int .i64 fr, .bool wr], .int .i64 0]) (results_ct Try.results15 _ _ (w.heap.size + 1) [.bool true, .int .i64 fr, .bool wr] _ rfl R6.out.all Try.underlying26 rfl (by kernel_rfl)) rfl ⟨rfl, R6.out.bel⟩
end Go.Proofs.Yteenaokcfhlemaa.Walks
