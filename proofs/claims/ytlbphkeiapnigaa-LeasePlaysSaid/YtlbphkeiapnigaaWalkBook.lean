/- Walks through the functions of the statement, and the statement over them: each contract says what the call answers and that nothing else changes. -/
import Derived.Test.YtlbphkeiapnigaaProg
import Derived.Test.YtlbphkeiapnigaaBits
import Derived.Test.YtlbphkeiapnigaaHeap
import Derived.Test.YtlbphkeiapnigaaAid
import Derived.Lib.Hide
import Derived.Test.YtlbphkeiapnigaaArr
import Derived.Test.YtlbphkeiapnigaaEql
import Derived.WalkKit
import Derived.WalkSpells
import Derived.WalkLawsBesides
import Derived.Deep.QuietTactic
import Derived.BigQuiet
import Derived.Deep.RegionHeld3
import Derived.Deep.DeepCutAuto
import Derived.Deep.CutBlock
import Derived.Lib.SlBytesConst
namespace Go.Proofs.Ytlbphkeiapnigaa.Walks
set_option linter.unusedVariables false
set_option linter.unusedSimpArgs false
open Go.RowKit Go.Proofs.Ytlbphkeiapnigaa.Bits Go.Proofs.Ytlbphkeiapnigaa.Heap Go.Proofs.Ytlbphkeiapnigaa.Aid Go.Proofs.Ytlbphkeiapnigaa.Arr Go.Proofs.Ytlbphkeiapnigaa.Eql

theorem ret_int {k : IntKind} {a b : Int} (h : a = b) : Ending.returned (.int k a) = .returned (.int k b) := by rw [h]
theorem ret_bool {a b : Bool} (h : a = b) : Ending.returned (.bool a) = .returned (.bool b) := by rw [h]
/-- The block that holds the instruction, in any later world. -/
structure Inv (w : World) (cs : List Value) (t : TypeId) (w' : World) : Prop where
  b : Below w.heap.size w w'
  k : Blk w' w.heap.size cs t
  z : w.heap.size < w'.heap.size
theorem Inv.step {w w1 w2 : World} {cs : List Value} {t : TypeId} (h : Inv w cs t w1) (hb : Below w1.heap.size w1 w2) : Inv w cs t w2 :=
  ⟨h.b.trans (hb.mono h.b.size), h.k.below hb h.z, Nat.lt_of_lt_of_le h.z hb.size⟩
theorem Inv.drewN {w w1 : World} {cs : List Value} {t : TypeId} (h : Inv w cs t w1) (m : Nat) : Inv w cs t (w1.drewN m) :=
  ⟨below_drewN h.b m, h.k.drewN m, h.z⟩
theorem Inv.new (w : World) (A : Array Value) (t : TypeId) : Inv w A.toList t (w.alloc (.cells A t)) :=
  ⟨(Below.refl _ _).alloc (Nat.le_refl _) _, Blk.new w _ _, by simp⟩
theorem Inv.set {w w1 : World} {cs : List Value} {t : TypeId} (h : Inv w cs t w1) (k : Nat) (v : Value) : Inv w (cs.set k v) t (w1.setCell ⟨w.heap.size, k, none⟩ v) :=
  ⟨h.b.setCell (Nat.le_refl _) v, h.k.set k v, by have := h.z; simpa [World.setCell] using this⟩
theorem Inv.setAll {w w1 : World} {cs : List Value} {t : TypeId} (h : Inv w cs t w1) (vs : List Value) (hl : vs.length = cs.length) : Inv w vs t (w1.setCells w.heap.size 0 vs) :=
  ⟨below_setCells h.b (Nat.le_refl _) 0 vs, blk_setAll h.k hl, by have := h.z; rw [size_setCells]; exact this⟩
/-- A lease. -/
structure Le where
  on : Bool
  fr : Int
  page : Int
  too : Int
  wr : Bool
  at_ : Int
deriving DecidableEq
def Le.cells (x : Le) : List Value := [.bool x.on, .int .i64 x.fr, .int .i64 x.page, .int .i64 x.too, .bool x.wr, .int .i64 x.at_]
def zeroLe : Le := ⟨false, 0, 0, 0, false, 0⟩
def bookCells : List Le → List Value
  | [] => []
  | x :: r => x.cells ++ bookCells r
theorem bookCells_length (b : List Le) : (bookCells b).length = 6 * b.length := by
  induction b with
  | nil => rfl
  | cons x r ih => simp [bookCells, Le.cells, ih]; omega
theorem bookCells_drop (b : List Le) (i : Nat) : (bookCells b).drop (6 * i) = bookCells (b.drop i) := by
  induction b generalizing i with
  | nil => simp [bookCells]
  | cons x r ih =>
    cases i with
    | zero => rfl
    | succ i =>
      have e : 6 * (i + 1) = x.cells.length + 6 * i := by simp [Le.cells]; omega
      rw [bookCells, e, List.drop_append, List.drop_of_length_le (by omega), List.nil_append, Nat.add_sub_cancel_left, ih]
      rfl
theorem bookCells_seg (b : List Le) {i : Nat} {x : Le} (h : b[i]? = some x) : ((bookCells b).drop (6 * i)).take 6 = x.cells := by
  rw [bookCells_drop]
  have hi : i < b.length := by
    rcases Nat.lt_or_ge i b.length with h1 | h1
    · exact h1
    · rw [List.getElem?_eq_none h1] at h; cases h
  rw [List.drop_eq_getElem_cons hi, bookCells]
  rw [List.getElem?_eq_getElem hi] at h
  rw [Option.some.inj h, List.take_append_of_le_length (by simp [Le.cells]), List.take_of_length_le (by simp [Le.cells])]
theorem bookCells_append (a b : List Le) : bookCells (a ++ b) = bookCells a ++ bookCells b := by
  induction a with
  | nil => rfl
  | cons x r ih => simp [bookCells, ih, List.append_assoc]
theorem bookCells_take (b : List Le) (i : Nat) : (bookCells b).take (6 * i) = bookCells (b.take i) := by
  induction b generalizing i with
  | nil => simp [bookCells]
  | cons x r ih =>
    cases i with
    | zero => rfl
    | succ i =>
      have e : 6 * (i + 1) = x.cells.length + 6 * i := by simp [Le.cells]; omega
      rw [bookCells, e, List.take_append, List.take_of_length_le (by omega), Nat.add_sub_cancel_left, ih]
      rfl
/-- A lease in its place. -/
theorem bookCells_set (b : List Le) {i : Nat} (x : Le) (hi : i < b.length) : (bookCells b).take (6 * i) ++ x.cells ++ (bookCells b).drop (6 * i + 6) = bookCells (b.set i x) := by
  have e : 6 * i + 6 = 6 * (i + 1) := by omega
  rw [e, bookCells_take, bookCells_drop, List.set_eq_take_append_cons_drop, if_pos hi, bookCells_append, bookCells, List.append_assoc]
theorem bookCells_get (b : List Le) {i : Nat} {x : Le} (h : b[i]? = some x) {j : Nat} (hj : j < 6) : (bookCells b)[i * 6 + j]? = x.cells[j]? := by
  have hs := bookCells_seg b h
  rw [← hs, List.getElem?_take, if_pos hj, List.getElem?_drop, Nat.mul_comm]
theorem size96 : (Try.prog.info? 25).map (·.size) = some 96 := by kernel_rfl
theorem size6 : (Try.prog.info? 23).map (·.size) = some 6 := by kernel_rfl
def getL (b : List Le) (n : Int) : Le × Int := if 0 ≤ n ∧ n < 16 then (if (b.getD n.toNat zeroLe).on then (b.getD n.toNat zeroLe, 0) else (zeroLe, 2)) else (zeroLe, 2)
set_option maxHeartbeats 2000000 in
theorem get_calls (b : List Le) (n : Int) (hb : b.length = 16) (w : World) :
    Calls Try.prog 7 #[.agg (bookCells b).toArray, .int .i64 n] w fun e w' => e = .returned (.tuple #[.agg (getL b n).1.cells.toArray, .int .i64 (getL b n).2]) ∧ Below w.heap.size w w' := by
  have HL := Lib.hid (bookCells_length b)
  obtain ⟨BC, hBC⟩ : ∃ BC, bookCells b = BC := ⟨_, rfl⟩
  rw [hBC] at HL ⊢
  have HB := Lib.hid hBC
  have HG := Lib.hid (show getL b n = if 0 ≤ n ∧ n < 16 then (if (b.getD n.toNat zeroLe).on then (b.getD n.toNat zeroLe, 0) else (zeroLe, 2)) else (zeroLe, 2) from rfl)
  generalize getL b n = res at *
  clear hBC
  go_enter Try.func7, Try.ntmps7
  go_upto_region 1 with (fail)
  have V1 : Hid (Inv w BC 25 (w.alloc (.cells BC.toArray 25))) := Inv.new w _ _
  have z1 : (w.alloc (.cells BC.toArray 25)).heap.size = w.heap.size + 1 := by simp
  generalize w.alloc (.cells BC.toArray 25) = w1 at *
  rw [← z1]
  clear z1
  have U2 : Hid (Inv w1 zeroLe.cells 23 (w1.alloc (.cells #[.bool false, .int .i64 0, .int .i64 0, .int .i64 0, .bool false, .int .i64 0] 23))) := Inv.new w1 _ _
  generalize w1.alloc (.cells #[.bool false, .int .i64 0, .int .i64 0, .int .i64 0, .bool false, .int .i64 0] 23) = w2 at *
  by_cases h : 0 ≤ n ∧ n < 16
  · obtain ⟨k, rfl⟩ := Int.eq_ofNat_of_zero_le h.1
    have hk : k < 16 := by omega
    obtain ⟨h1, h2⟩ := h
    have hd1 : decide ((k : Int) < 0) = false := decide_eq_false (by omega)
    have hd2 : decide (16 ≤ (k : Int)) = false := decide_eq_false (by omega)
    have hbk : b[k]? = some (b.getD k zeroLe) := by
      rw [List.getD_eq_getElem?_getD, List.getElem?_eq_getElem (show k < b.length by omega)]; rfl
    have V2 := Lib.hid (V1.out.step U2.out.b)
    have GX := Lib.hid hbk
    have HG2 : Hid (res = if (b.getD k zeroLe).on then (b.getD k zeroLe, 0) else (zeroLe, 2)) := by
      show _ = _
      rw [HG.out, if_pos ⟨h1, h2⟩, Int.toNat_natCast]
    have c0 : w2.cell? ⟨w.heap.size, k * 6, none⟩ = some (.bool (b.getD k zeroLe).on) := V2.out.k.cellAt (by rw [← HB.out]; exact bookCells_get b hbk (j := 0) (by omega))
    have hsg : Hid (w2.rangeAt w.heap.size (k * 6) (b.getD k zeroLe).cells) := range_of_blk V2.out.k (by rw [← HB.out, Nat.mul_comm]; exact bookCells_seg b hbk)
    clear hbk HG
    generalize b.getD k zeroLe = x at *
    have I6 := Lib.hid size6
    have hzs := Lib.hid (U2.out.setAll x.cells rfl)
    have hzz := Lib.hid (U2.out.setAll zeroLe.cells rfl)
    cases hon : x.on with
    | true =>
      rw [hon] at c0 HG2
      go_wp2_with (first | refine wpList_load_mid rfl 23 (.tmp 21) rfl w.heap.size (k * 6) rfl x.cells _ hsg.out Try.underlying23 rfl (by simpa [Le.cells] using I6.out) ?_ | refine wpList_store_mid rfl 23 (.tmp 4) (.tmp 22) rfl w1.heap.size 0 x.cells.toArray rfl rfl (there_of_blk U2.out.k ?s1) ?s2 ?s3 ?_)
      case s1 => simp [Le.cells, zeroLe]
      case s2 => simpa [Le.cells] using I6.out
      case s3 => simp [Le.cells, Value.oneCell']
      refine bodyPost_ret (v := .tuple #[.agg x.cells.toArray, .int .i64 0]) (results_ct Try.results7 _ _ w1.heap.size x.cells _ rfl (range_all hzs.out.k) Try.underlying23 rfl (by simpa [Le.cells] using I6.out)) rfl ⟨by rw [HG2.out]; rfl, (V1.out.step hzs.out.b).b⟩
    | false =>
      rw [hon] at c0 HG2
      go_wp2_with (refine wpList_store_mid rfl 23 (.tmp 4) (.tmp 19) rfl w1.heap.size 0 zeroLe.cells.toArray rfl rfl (there_of_blk U2.out.k ?s1) ?s2 ?s3 ?_)
      case s1 => simp [Le.cells, zeroLe]
      case s2 => simpa [Le.cells, zeroLe] using I6.out
      case s3 => simp [Le.cells, zeroLe, Value.oneCell']
      refine bodyPost_ret (v := .tuple #[.agg zeroLe.cells.toArray, .int .i64 2]) (results_ct Try.results7 _ _ w1.heap.size zeroLe.cells _ rfl (range_all hzz.out.k) Try.underlying23 rfl (by simpa [Le.cells, zeroLe] using I6.out)) rfl ⟨by rw [HG2.out]; rfl, (V1.out.step hzz.out.b).b⟩
  · have HG2 : Hid (res = (zeroLe, 2)) := by
      show _ = _
      rw [HG.out, if_neg h]
    have I6 := Lib.hid size6
    have hzz := Lib.hid (U2.out.setAll zeroLe.cells rfl)
    clear HG
    by_cases hn : n < 0
    · have hd1 : decide (n < 0) = true := decide_eq_true hn
      go_wp2_with (refine wpList_store_mid rfl 23 (.tmp 4) (.tmp 19) rfl w1.heap.size 0 zeroLe.cells.toArray rfl rfl (there_of_blk U2.out.k (by simp [Le.cells, zeroLe])) (by simpa [Le.cells, zeroLe] using I6.out) (by simp [Le.cells, zeroLe, Value.oneCell']) ?_)
      refine bodyPost_ret (v := .tuple #[.agg zeroLe.cells.toArray, .int .i64 2]) (results_ct Try.results7 _ _ w1.heap.size zeroLe.cells _ rfl (range_all hzz.out.k) Try.underlying23 rfl (by simpa [Le.cells, zeroLe] using I6.out)) rfl ⟨by rw [HG2.out], (V1.out.step hzz.out.b).b⟩
    · have hd1 : decide (n < 0) = false := decide_eq_false hn
      have hd2 : decide (16 ≤ n) = true := decide_eq_true (by omega)
      go_wp2_with (refine wpList_store_mid rfl 23 (.tmp 4) (.tmp 19) rfl w1.heap.size 0 zeroLe.cells.toArray rfl rfl (there_of_blk U2.out.k (by simp [Le.cells, zeroLe])) (by simpa [Le.cells, zeroLe] using I6.out) (by simp [Le.cells, zeroLe, Value.oneCell']) ?_)
      refine bodyPost_ret (v := .tuple #[.agg zeroLe.cells.toArray, .int .i64 2]) (results_ct Try.results7 _ _ w1.heap.size zeroLe.cells _ rfl (range_all hzz.out.k) Try.underlying23 rfl (by simpa [Le.cells, zeroLe] using I6.out)) rfl ⟨by rw [HG2.out], (V1.out.step hzz.out.b).b⟩
def zeroBook : List Le := List.replicate 16 zeroLe
def zeroCells : List Value := bookCells zeroBook
theorem zero_book (w : World) : (zeroValue 25).run Try.prog w = .ok (.agg zeroCells.toArray) w := by kernel_rfl
theorem zeroCells_length : zeroCells.length = 96 := by decide
theorem bookCells_one (b : List Le) : ∀ v ∈ bookCells b, v.oneCell' = true := by
  induction b with
  | nil => intro v hv; cases hv
  | cons x r ih =>
    intro v hv
    rw [bookCells, List.mem_append] at hv
    rcases hv with h | h
    · simp only [Le.cells, List.mem_cons, List.not_mem_nil, or_false] at h
      rcases h with rfl | rfl | rfl | rfl | rfl | rfl <;> rfl
    · exact ih v h
theorem getL_ok (b : List Le) (n : Int) (h : (getL b n).2 = 0) : 0 ≤ n ∧ n < 16 := by
  unfold getL at h
  by_cases hn : 0 ≤ n ∧ n < 16
  · exact hn
  · rw [if_neg hn] at h; simp at h
def withdrawL (b : List Le) (n vm : Int) : List Le × Int :=
  if (getL b n).2 ≠ 0 then (b, (getL b n).2) else if (getL b n).1.fr ≠ vm then (b, 7) else if 0 ≤ (getL b n).1.at_ then (b, 8) else (b.set n.toNat zeroLe, 0)
set_option maxHeartbeats 2000000 in
theorem withdraw_calls (b : List Le) (n vm : Int) (hb : b.length = 16) (w : World) :
    Calls Try.prog 10 #[.agg (bookCells b).toArray, .int .i64 n, .int .i64 vm] w fun e w' => e = .returned (.tuple #[.agg (bookCells (withdrawL b n vm).1).toArray, .int .i64 (withdrawL b n vm).2]) ∧ Below w.heap.size w w' := by
  have HL := Lib.hid (bookCells_length b)
  have HGC := Lib.hid (get_calls b n hb)
  obtain ⟨BC, hBC⟩ : ∃ BC, bookCells b = BC := ⟨_, rfl⟩
  rw [hBC] at HL HGC ⊢
  have HB := Lib.hid hBC
  have HW := Lib.hid (show withdrawL b n vm = if (getL b n).2 ≠ 0 then (b, (getL b n).2) else if (getL b n).1.fr ≠ vm then (b, 7) else if 0 ≤ (getL b n).1.at_ then (b, 8) else (b.set n.toNat zeroLe, 0) from rfl)
  generalize withdrawL b n vm = res at *
  clear hBC
  obtain ⟨ZC, hZC⟩ : ∃ ZC, zeroCells = ZC := ⟨_, rfl⟩
  have hz : ∀ w, (zeroValue 25).run Try.prog w = .ok (.agg ZC.toArray) w := by rw [← hZC]; exact zero_book
  have hzl : ZC.length = 96 := by rw [← hZC]; exact zeroCells_length
  have hzs : ZC.toArray.size = 96 := by simpa using hzl
  have hzn : ¬ ZC.toArray = #[] := fun h => by rw [h] at hzs; simp at hzs
  go_enter Try.func10, Try.ntmps10
  go_upto_region 1 with (fail)
  have V1 : Hid (Inv w BC 25 (w.alloc (.cells BC.toArray 25))) := Inv.new w _ _
  have z1 : (w.alloc (.cells BC.toArray 25)).heap.size = w.heap.size + 1 := by simp
  generalize w.alloc (.cells BC.toArray 25) = w1 at *
  rw [← z1]
  clear z1
  have U2 : Hid (Inv w1 ZC 25 (w1.alloc (.cells ZC.toArray 25))) := Inv.new w1 _ _
  generalize w1.alloc (.cells ZC.toArray 25) = w2 at *
  have V2 := Lib.hid (V1.out.step U2.out.b)
  have IB := Lib.hid (show (Try.prog.info? 25).map (·.size) = some BC.length by rw [HL.out, hb, size96])
  have HZL := Lib.hid hzl
  clear hz hzl hzs hzn hZC
  have HGO := Lib.hid (getL_ok b n)
  generalize getL b n = g at *
  obtain ⟨x, er⟩ := g
  go_wp2_with (refine wpList_load_mid rfl 25 (.tmp 3) rfl w.heap.size 0 rfl BC _ (range_all V2.out.k) Try.underlying25 rfl IB.out ?_)
  refine (HGC.out _).mono ?_
  rintro e w3 ⟨rfl, hbe⟩
  have U3 := Lib.hid (U2.out.step hbe)
  clear hbe U2 V2
  rw [show x.cells.toArray = #[.bool x.on, .int .i64 x.fr, .int .i64 x.page, .int .i64 x.too, .bool x.wr, .int .i64 x.at_] from rfl]
  go_upto_region 2 with (fail)
  have T4 : Hid (Inv w3 x.cells 23 (w3.alloc (.cells #[.bool x.on, .int .i64 x.fr, .int .i64 x.page, .int .i64 x.too, .bool x.wr, .int .i64 x.at_] 23))) := Inv.new w3 _ _
  generalize w3.alloc (.cells #[.bool x.on, .int .i64 x.fr, .int .i64 x.page, .int .i64 x.too, .bool x.wr, .int .i64 x.at_] 23) = w4 at *
  have U4 := Lib.hid (U3.out.step T4.out.b)
  have V4 := Lib.hid (V1.out.step U4.out.b)
  have c1 : w4.cell? ⟨w3.heap.size, 1, none⟩ = some (.int .i64 x.fr) := T4.out.k.cellAt (i := 1) rfl
  have c5 : w4.cell? ⟨w3.heap.size, 5, none⟩ = some (.int .i64 x.at_) := T4.out.k.cellAt (i := 5) rfl
  have hbz := Lib.hid (U4.out.setAll BC (by rw [HL.out, hb, HZL.out]))
  have OB : Hid (∀ v ∈ BC, v.oneCell' = true) := by rw [← HB.out]; exact bookCells_one b
  clear U3
  by_cases he : er = 0
  · subst he
    obtain ⟨k, rfl⟩ := Int.eq_ofNat_of_zero_le (HGO.out rfl).1
    have hk16 := (HGO.out rfl).2
    by_cases hf : x.fr = vm
    · by_cases ha : 0 ≤ x.at_
      · have HR : res = (b, 8) := by rw [HW.out]; simp [hf, ha]
        have hd0 : (x.fr != vm) = false := by simp [hf]
        have hd1 : decide (0 ≤ x.at_) = true := decide_eq_true ha
        go_wp2_with (first | refine wpList_load_mid rfl 25 (.tmp 3) rfl w.heap.size 0 rfl BC _ (range_all V4.out.k) Try.underlying25 rfl IB.out ?_ | refine wpList_store_mid rfl 25 (.tmp 6) (.tmp 31) rfl w1.heap.size 0 BC.toArray rfl rfl (there_of_blk U4.out.k (by have h1 := HL.out; have h2 := HZL.out; simp; omega)) (by simpa using IB.out) (all_oneCell_toArray OB.out) ?_)
        refine bodyPost_ret (v := .tuple #[.agg BC.toArray, .int .i64 8]) (results_ct Try.results10 _ _ w1.heap.size BC _ rfl (range_all hbz.out.k) Try.underlying25 rfl IB.out) rfl ⟨by (try rw [HR]); exact congrArg (fun z : List Value => Ending.returned (.tuple #[.agg z.toArray, _])) HB.out.symm, (V1.out.step hbz.out.b).b⟩
      · have HR : res = (b.set k zeroLe, 0) := by rw [HW.out]; simp [hf, ha]
        have hd0 : (x.fr != vm) = false := by simp [hf]
        have hd1 : decide (0 ≤ x.at_) = false := decide_eq_false ha
        have hkn : k < 16 := by omega
        have hk0 : 0 ≤ (k : Int) := by omega
        have hki : (k : Int) < 16 := by omega
        have hth : Hid (w4.there w.heap.size (k * 6) 6) := there_of_blk V4.out.k (by have := HL.out; omega)
        have I6 := Lib.hid size6
        have hset : Hid (Blk (w4.setCells w.heap.size (k * 6) zeroLe.cells) w.heap.size (bookCells (b.set k zeroLe)) 25) := by
          rcases Blk.setCells V4.out.k (k * 6) zeroLe.cells with h1 | h1
          · have e := bookCells_set b zeroLe (show k < b.length by omega)
            rw [HB.out, Nat.mul_comm 6 k] at e
            rw [← e]
            exact h1
          · exfalso
            have := HL.out
            simp [Le.cells, zeroLe] at h1
            omega
        have hV5 : Hid (Below w.heap.size w (w4.setCells w.heap.size (k * 6) zeroLe.cells)) := below_setCells V4.out.b (Nat.le_refl _) _ _
        have hU5 : Hid (Blk (w4.setCells w.heap.size (k * 6) zeroLe.cells) w1.heap.size ZC 25) := blk_setOther U4.out.k (by have := V1.out.z; omega) _ _
        go_upto_region 9 with (refine wpList_store_mid rfl 23 (.tmp 34) (.tmp 33) rfl w.heap.size (k * 6) zeroLe.cells.toArray rfl rfl hth.out (by simpa [Le.cells, zeroLe] using I6.out) (by simp [Le.cells, zeroLe, Value.oneCell']) ?_)
        generalize w4.setCells w.heap.size (k * 6) zeroLe.cells = w5 at *
        have HNC : Hid (∃ NC, bookCells (b.set k zeroLe) = NC) := ⟨_, rfl⟩
        obtain ⟨NC, hNC⟩ := HNC.out
        have HN2 := Lib.hid hNC
        have LN := Lib.hid (show NC.length = 96 by rw [← hNC, bookCells_length, List.length_set, hb])
        have ON : Hid (∀ v ∈ NC, v.oneCell' = true) := by rw [← hNC]; exact bookCells_one _
        rw [hNC] at hset
        clear hNC HNC
        have IN := Lib.hid (show (Try.prog.info? 25).map (·.size) = some NC.length by rw [LN.out, size96])
        have hbz6 := Lib.hid (blk_setAll hU5.out (vs := NC) (by rw [LN.out, HZL.out]))
        go_wp2_with (first | refine wpList_load_mid rfl 25 (.tmp 3) rfl w.heap.size 0 rfl NC _ (range_all hset.out) Try.underlying25 rfl IN.out ?_ | refine wpList_store_mid rfl 25 (.tmp 6) (.tmp 35) rfl w1.heap.size 0 NC.toArray rfl rfl (there_of_blk hU5.out (by have h1 := LN.out; have h2 := HZL.out; simp; omega)) (by simpa using IN.out) (all_oneCell_toArray ON.out) ?_)
        refine bodyPost_ret (v := .tuple #[.agg NC.toArray, .int .i64 0]) (results_ct Try.results10 _ _ w1.heap.size NC _ rfl (range_all hbz6.out) Try.underlying25 rfl IN.out) rfl ⟨by (try rw [HR]); exact congrArg (fun z : List Value => Ending.returned (.tuple #[.agg z.toArray, _])) HN2.out.symm, below_setCells hV5.out (by have := V1.out.z; omega) _ _⟩
    · have HR : res = (b, 7) := by rw [HW.out]; simp [hf]
      have hd0 : (x.fr != vm) = true := by simpa using hf
      go_wp2_with (first | refine wpList_load_mid rfl 25 (.tmp 3) rfl w.heap.size 0 rfl BC _ (range_all V4.out.k) Try.underlying25 rfl IB.out ?_ | refine wpList_store_mid rfl 25 (.tmp 6) (.tmp 26) rfl w1.heap.size 0 BC.toArray rfl rfl (there_of_blk U4.out.k (by have h1 := HL.out; have h2 := HZL.out; simp; omega)) (by simpa using IB.out) (all_oneCell_toArray OB.out) ?_)
      refine bodyPost_ret (v := .tuple #[.agg BC.toArray, .int .i64 7]) (results_ct Try.results10 _ _ w1.heap.size BC _ rfl (range_all hbz.out.k) Try.underlying25 rfl IB.out) rfl ⟨by (try rw [HR]); exact congrArg (fun z : List Value => Ending.returned (.tuple #[.agg z.toArray, _])) HB.out.symm, (V1.out.step hbz.out.b).b⟩
  · have HR : res = (b, er) := by rw [HW.out]; simp [he]
    have hd0 : (er != 0) = true := by simpa using he
    go_wp2_with (first | refine wpList_load_mid rfl 25 (.tmp 3) rfl w.heap.size 0 rfl BC _ (range_all V4.out.k) Try.underlying25 rfl IB.out ?_ | refine wpList_store_mid rfl 25 (.tmp 6) (.tmp 19) rfl w1.heap.size 0 BC.toArray rfl rfl (there_of_blk U4.out.k (by have h1 := HL.out; have h2 := HZL.out; simp; omega)) (by simpa using IB.out) (all_oneCell_toArray OB.out) ?_)
    refine bodyPost_ret (v := .tuple #[.agg BC.toArray, .int .i64 er]) (results_ct Try.results10 _ _ w1.heap.size BC _ rfl (range_all hbz.out.k) Try.underlying25 rfl IB.out) rfl ⟨by (try rw [HR]); exact congrArg (fun z : List Value => Ending.returned (.tuple #[.agg z.toArray, _])) HB.out.symm, (V1.out.step hbz.out.b).b⟩
theorem bookCells_setAt (b : List Le) {i : Nat} {x : Le} (h : b[i]? = some x) (v : Int) : (bookCells b).set (i * 6 + 5) (.int .i64 v) = bookCells (b.set i { x with at_ := v }) := by
  induction b generalizing i with
  | nil => simp at h
  | cons y r ih =>
    cases i with
    | zero =>
      simp only [List.getElem?_cons_zero, Option.some.injEq] at h
      subst h
      rfl
    | succ i =>
      have h' : r[i]? = some x := by simpa using h
      have hl : y.cells.length = 6 := rfl
      rw [List.set_cons_succ, bookCells, bookCells, ← ih h', List.set_append_right _ _ (by rw [hl]; omega), hl, show (i + 1) * 6 + 5 - 6 = i * 6 + 5 by omega]
def rightL (vm page : Int) : Bool := decide (0 ≤ vm ∧ vm < 6 ∧ 0 ≤ page ∧ page < 32)
set_option maxHeartbeats 1000000 in
theorem right_calls (vm page : Int) (w : World) :
    Calls Try.prog 15 #[.int .i64 vm, .int .i64 page] w fun e w' => e = .returned (.bool (rightL vm page)) ∧ w = w' := by
  go_enter Try.func15, Try.ntmps15
  go_wp2
  all_goals
    go_ret
    refine ⟨ret_bool ?_, rfl⟩
    unfold rightL
    first
      | exact (decide_eq_true (by omega)).symm
      | exact (decide_eq_false (by omega)).symm
      | (rw [decide_eq_decide]; omega)
theorem getL_ok2 (b : List Le) (n : Int) (hb : b.length = 16) (h : (getL b n).2 = 0) : 0 ≤ n ∧ n < 16 ∧ b[n.toNat]? = some (getL b n).1 := by
  have hn := getL_ok b n h
  refine ⟨hn.1, hn.2, ?_⟩
  unfold getL at h ⊢
  rw [if_pos hn] at h ⊢
  by_cases ho : (b.getD n.toNat zeroLe).on = true
  · rw [if_pos ho]
    rw [List.getD_eq_getElem?_getD, List.getElem?_eq_getElem (show n.toNat < b.length by omega)]; rfl
  · rw [if_neg ho] at h; simp at h
def leaveL (b : List Le) (n vm : Int) : List Le × Int :=
  if (getL b n).2 ≠ 0 then (b, (getL b n).2) else if (getL b n).1.too ≠ vm then (b, 7) else if (getL b n).1.at_ < 0 then (b, 10) else (b.set n.toNat { (getL b n).1 with at_ := -1 }, 0)
set_option maxHeartbeats 2000000 in
theorem leave_calls (b : List Le) (n vm : Int) (hb : b.length = 16) (w : World) :
    Calls Try.prog 12 #[.agg (bookCells b).toArray, .int .i64 n, .int .i64 vm] w fun e w' => e = .returned (.tuple #[.agg (bookCells (leaveL b n vm).1).toArray, .int .i64 (leaveL b n vm).2]) ∧ Below w.heap.size w w' := by
  have HL := Lib.hid (bookCells_length b)
  have HGC := Lib.hid (get_calls b n hb)
  obtain ⟨BC, hBC⟩ : ∃ BC, bookCells b = BC := ⟨_, rfl⟩
  rw [hBC] at HL HGC ⊢
  have HB := Lib.hid hBC
  have HW := Lib.hid (show leaveL b n vm = if (getL b n).2 ≠ 0 then (b, (getL b n).2) else if (getL b n).1.too ≠ vm then (b, 7) else if (getL b n).1.at_ < 0 then (b, 10) else (b.set n.toNat { (getL b n).1 with at_ := -1 }, 0) from rfl)
  generalize leaveL b n vm = res at *
  clear hBC
  obtain ⟨ZC, hZC⟩ : ∃ ZC, zeroCells = ZC := ⟨_, rfl⟩
  have hz : ∀ w, (zeroValue 25).run Try.prog w = .ok (.agg ZC.toArray) w := by rw [← hZC]; exact zero_book
  have hzl : ZC.length = 96 := by rw [← hZC]; exact zeroCells_length
  have hzs : ZC.toArray.size = 96 := by simpa using hzl
  have hzn : ¬ ZC.toArray = #[] := fun h => by rw [h] at hzs; simp at hzs
  go_enter Try.func12, Try.ntmps12
  go_upto_region 1 with (fail)
  have V1 : Hid (Inv w BC 25 (w.alloc (.cells BC.toArray 25))) := Inv.new w _ _
  have z1 : (w.alloc (.cells BC.toArray 25)).heap.size = w.heap.size + 1 := by simp
  generalize w.alloc (.cells BC.toArray 25) = w1 at *
  rw [← z1]
  clear z1
  have U2 : Hid (Inv w1 ZC 25 (w1.alloc (.cells ZC.toArray 25))) := Inv.new w1 _ _
  generalize w1.alloc (.cells ZC.toArray 25) = w2 at *
  have V2 := Lib.hid (V1.out.step U2.out.b)
  have IB := Lib.hid (show (Try.prog.info? 25).map (·.size) = some BC.length by rw [HL.out, hb, size96])
  have HZL := Lib.hid hzl
  clear hz hzl hzs hzn hZC
  have HGO := Lib.hid (getL_ok2 b n hb)
  generalize getL b n = g at *
  obtain ⟨x, er⟩ := g
  go_wp2_with (refine wpList_load_mid rfl 25 (.tmp 3) rfl w.heap.size 0 rfl BC _ (range_all V2.out.k) Try.underlying25 rfl IB.out ?_)
  refine (HGC.out _).mono ?_
  rintro e w3 ⟨rfl, hbe⟩
  have U3 := Lib.hid (U2.out.step hbe)
  clear hbe U2 V2
  rw [show x.cells.toArray = #[.bool x.on, .int .i64 x.fr, .int .i64 x.page, .int .i64 x.too, .bool x.wr, .int .i64 x.at_] from rfl]
  go_upto_region 2 with (fail)
  have T4 : Hid (Inv w3 x.cells 23 (w3.alloc (.cells #[.bool x.on, .int .i64 x.fr, .int .i64 x.page, .int .i64 x.too, .bool x.wr, .int .i64 x.at_] 23))) := Inv.new w3 _ _
  generalize w3.alloc (.cells #[.bool x.on, .int .i64 x.fr, .int .i64 x.page, .int .i64 x.too, .bool x.wr, .int .i64 x.at_] 23) = w4 at *
  have U4 := Lib.hid (U3.out.step T4.out.b)
  have V4 := Lib.hid (V1.out.step U4.out.b)
  have c1 : w4.cell? ⟨w3.heap.size, 3, none⟩ = some (.int .i64 x.too) := T4.out.k.cellAt (i := 3) rfl
  have c5 : w4.cell? ⟨w3.heap.size, 5, none⟩ = some (.int .i64 x.at_) := T4.out.k.cellAt (i := 5) rfl
  have hbz := Lib.hid (U4.out.setAll BC (by rw [HL.out, hb, HZL.out]))
  have OB : Hid (∀ v ∈ BC, v.oneCell' = true) := by rw [← HB.out]; exact bookCells_one b
  clear U3
  by_cases he : er = 0
  · subst he
    obtain ⟨k, rfl⟩ := Int.eq_ofNat_of_zero_le (HGO.out rfl).1
    have hk16 := (HGO.out rfl).2.1
    have hbk := (HGO.out rfl).2.2
    by_cases hf : x.too = vm
    · by_cases ha : x.at_ < 0
      · have HR : res = (b, 10) := by rw [HW.out]; simp [hf, ha]
        have hd0 : (x.too != vm) = false := by simp [hf]
        have hd1 : decide (x.at_ < 0) = true := decide_eq_true ha
        go_wp2_with (first | refine wpList_load_mid rfl 25 (.tmp 3) rfl w.heap.size 0 rfl BC _ (range_all V4.out.k) Try.underlying25 rfl IB.out ?_ | refine wpList_store_mid rfl 25 (.tmp 6) (.tmp 31) rfl w1.heap.size 0 BC.toArray rfl rfl (there_of_blk U4.out.k (by have h1 := HL.out; have h2 := HZL.out; simp; omega)) (by simpa using IB.out) (all_oneCell_toArray OB.out) ?_)
        refine bodyPost_ret (v := .tuple #[.agg BC.toArray, .int .i64 10]) (results_ct Try.results12 _ _ w1.heap.size BC _ rfl (range_all hbz.out.k) Try.underlying25 rfl IB.out) rfl ⟨by (try rw [HR]); exact congrArg (fun z : List Value => Ending.returned (.tuple #[.agg z.toArray, _])) HB.out.symm, (V1.out.step hbz.out.b).b⟩
      · have HR : res = (b.set k { x with at_ := -1 }, 0) := by rw [HW.out]; simp [hf, ha]
        have hd0 : (x.too != vm) = false := by simp [hf]
        have hd1 : decide (x.at_ < 0) = false := decide_eq_false ha
        have hkn : k < 16 := by omega
        have hk0 : 0 ≤ (k : Int) := by omega
        have hki : (k : Int) < 16 := by omega
        rw [Int.toNat_natCast] at hbk
        have ck : w4.cell? ⟨w.heap.size, k * 6 + 5, none⟩ = some (.int .i64 x.at_) := V4.out.k.cellAt (by rw [← HB.out]; exact bookCells_get b hbk (j := 5) (by omega))
        have fk := V4.out.k.unfrozen (k * 6 + 5)
        have hset : Hid (Blk (w4.setCell ⟨w.heap.size, k * 6 + 5, none⟩ (.int .i64 (-1))) w.heap.size (bookCells (b.set k { x with at_ := -1 })) 25) := by
          rw [← bookCells_setAt b hbk, HB.out]
          exact V4.out.k.set _ _
        have hV5 : Hid (Below w.heap.size w (w4.setCell ⟨w.heap.size, k * 6 + 5, none⟩ (.int .i64 (-1)))) := V4.out.b.setCell (Nat.le_refl _) _
        have hU5 : Hid (Blk (w4.setCell ⟨w.heap.size, k * 6 + 5, none⟩ (.int .i64 (-1))) w1.heap.size ZC 25) := U4.out.k.other (by have := V1.out.z; show w.heap.size ≠ w1.heap.size; omega) _
        go_upto_region 9 with (fail)
        generalize w4.setCell ⟨w.heap.size, k * 6 + 5, none⟩ (.int .i64 (-1)) = w5 at *
        have HNC : Hid (∃ NC, bookCells (b.set k { x with at_ := -1 }) = NC) := ⟨_, rfl⟩
        obtain ⟨NC, hNC⟩ := HNC.out
        have HN2 := Lib.hid hNC
        have LN := Lib.hid (show NC.length = 96 by rw [← hNC, bookCells_length, List.length_set, hb])
        have ON : Hid (∀ v ∈ NC, v.oneCell' = true) := by rw [← hNC]; exact bookCells_one _
        rw [hNC] at hset
        clear hNC HNC
        have IN := Lib.hid (show (Try.prog.info? 25).map (·.size) = some NC.length by rw [LN.out, size96])
        have hbz6 := Lib.hid (blk_setAll hU5.out (vs := NC) (by rw [LN.out, HZL.out]))
        go_wp2_with (first | refine wpList_load_mid rfl 25 (.tmp 3) rfl w.heap.size 0 rfl NC _ (range_all hset.out) Try.underlying25 rfl IN.out ?_ | refine wpList_store_mid rfl 25 (.tmp 6) (.tmp 35) rfl w1.heap.size 0 NC.toArray rfl rfl (there_of_blk hU5.out (by have h1 := LN.out; have h2 := HZL.out; simp; omega)) (by simpa using IN.out) (all_oneCell_toArray ON.out) ?_)
        refine bodyPost_ret (v := .tuple #[.agg NC.toArray, .int .i64 0]) (results_ct Try.results12 _ _ w1.heap.size NC _ rfl (range_all hbz6.out) Try.underlying25 rfl IN.out) rfl ⟨by (try rw [HR]); (try rw [← hf]); exact congrArg (fun z : List Value => Ending.returned (.tuple #[.agg z.toArray, _])) HN2.out.symm, below_setCells hV5.out (by have := V1.out.z; omega) _ _⟩
    · have HR : res = (b, 7) := by rw [HW.out]; simp [hf]
      have hd0 : (x.too != vm) = true := by simpa using hf
      go_wp2_with (first | refine wpList_load_mid rfl 25 (.tmp 3) rfl w.heap.size 0 rfl BC _ (range_all V4.out.k) Try.underlying25 rfl IB.out ?_ | refine wpList_store_mid rfl 25 (.tmp 6) (.tmp 26) rfl w1.heap.size 0 BC.toArray rfl rfl (there_of_blk U4.out.k (by have h1 := HL.out; have h2 := HZL.out; simp; omega)) (by simpa using IB.out) (all_oneCell_toArray OB.out) ?_)
      refine bodyPost_ret (v := .tuple #[.agg BC.toArray, .int .i64 7]) (results_ct Try.results12 _ _ w1.heap.size BC _ rfl (range_all hbz.out.k) Try.underlying25 rfl IB.out) rfl ⟨by (try rw [HR]); exact congrArg (fun z : List Value => Ending.returned (.tuple #[.agg z.toArray, _])) HB.out.symm, (V1.out.step hbz.out.b).b⟩
  · have HR : res = (b, er) := by rw [HW.out]; simp [he]
    have hd0 : (er != 0) = true := by simpa using he
    go_wp2_with (first | refine wpList_load_mid rfl 25 (.tmp 3) rfl w.heap.size 0 rfl BC _ (range_all V4.out.k) Try.underlying25 rfl IB.out ?_ | refine wpList_store_mid rfl 25 (.tmp 6) (.tmp 19) rfl w1.heap.size 0 BC.toArray rfl rfl (there_of_blk U4.out.k (by have h1 := HL.out; have h2 := HZL.out; simp; omega)) (by simpa using IB.out) (all_oneCell_toArray OB.out) ?_)
    refine bodyPost_ret (v := .tuple #[.agg BC.toArray, .int .i64 er]) (results_ct Try.results12 _ _ w1.heap.size BC _ rfl (range_all hbz.out.k) Try.underlying25 rfl IB.out) rfl ⟨by (try rw [HR]); exact congrArg (fun z : List Value => Ending.returned (.tuple #[.agg z.toArray, _])) HB.out.symm, (V1.out.step hbz.out.b).b⟩
def acceptL (b : List Le) (n vm pg : Int) : List Le × Int :=
  if (getL b n).2 ≠ 0 then (b, (getL b n).2) else if (getL b n).1.too ≠ vm then (b, 7) else if 0 ≤ (getL b n).1.at_ then (b, 8) else if rightL vm pg = false then (b, 1) else (b.set n.toNat { (getL b n).1 with at_ := pg }, 0)
set_option maxHeartbeats 2000000 in
theorem accept_calls (b : List Le) (n vm pg : Int) (hb : b.length = 16) (w : World) :
    Calls Try.prog 11 #[.agg (bookCells b).toArray, .int .i64 n, .int .i64 vm, .int .i64 pg] w fun e w' => e = .returned (.tuple #[.agg (bookCells (acceptL b n vm pg).1).toArray, .int .i64 (acceptL b n vm pg).2]) ∧ Below w.heap.size w w' := by
  have HL := Lib.hid (bookCells_length b)
  have HGC := Lib.hid (get_calls b n hb)
  obtain ⟨BC, hBC⟩ : ∃ BC, bookCells b = BC := ⟨_, rfl⟩
  rw [hBC] at HL HGC ⊢
  have HB := Lib.hid hBC
  have HW := Lib.hid (show acceptL b n vm pg = if (getL b n).2 ≠ 0 then (b, (getL b n).2) else if (getL b n).1.too ≠ vm then (b, 7) else if 0 ≤ (getL b n).1.at_ then (b, 8) else if rightL vm pg = false then (b, 1) else (b.set n.toNat { (getL b n).1 with at_ := pg }, 0) from rfl)
  generalize acceptL b n vm pg = res at *
  clear hBC
  obtain ⟨ZC, hZC⟩ : ∃ ZC, zeroCells = ZC := ⟨_, rfl⟩
  have hz : ∀ w, (zeroValue 25).run Try.prog w = .ok (.agg ZC.toArray) w := by rw [← hZC]; exact zero_book
  have hzl : ZC.length = 96 := by rw [← hZC]; exact zeroCells_length
  have hzs : ZC.toArray.size = 96 := by simpa using hzl
  have hzn : ¬ ZC.toArray = #[] := fun h => by rw [h] at hzs; simp at hzs
  go_enter Try.func11, Try.ntmps11
  go_upto_region 1 with (fail)
  have V1 : Hid (Inv w BC 25 (w.alloc (.cells BC.toArray 25))) := Inv.new w _ _
  have z1 : (w.alloc (.cells BC.toArray 25)).heap.size = w.heap.size + 1 := by simp
  generalize w.alloc (.cells BC.toArray 25) = w1 at *
  rw [← z1]
  clear z1
  have U2 : Hid (Inv w1 ZC 25 (w1.alloc (.cells ZC.toArray 25))) := Inv.new w1 _ _
  generalize w1.alloc (.cells ZC.toArray 25) = w2 at *
  have V2 := Lib.hid (V1.out.step U2.out.b)
  have IB := Lib.hid (show (Try.prog.info? 25).map (·.size) = some BC.length by rw [HL.out, hb, size96])
  have HZL := Lib.hid hzl
  clear hz hzl hzs hzn hZC
  have HGO := Lib.hid (getL_ok2 b n hb)
  generalize getL b n = g at *
  obtain ⟨x, er⟩ := g
  go_wp2_with (refine wpList_load_mid rfl 25 (.tmp 4) rfl w.heap.size 0 rfl BC _ (range_all V2.out.k) Try.underlying25 rfl IB.out ?_)
  refine (HGC.out _).mono ?_
  rintro e w3 ⟨rfl, hbe⟩
  have U3 := Lib.hid (U2.out.step hbe)
  clear hbe U2 V2
  rw [show x.cells.toArray = #[.bool x.on, .int .i64 x.fr, .int .i64 x.page, .int .i64 x.too, .bool x.wr, .int .i64 x.at_] from rfl]
  go_upto_region 2 with (fail)
  have T4 : Hid (Inv w3 x.cells 23 (w3.alloc (.cells #[.bool x.on, .int .i64 x.fr, .int .i64 x.page, .int .i64 x.too, .bool x.wr, .int .i64 x.at_] 23))) := Inv.new w3 _ _
  generalize w3.alloc (.cells #[.bool x.on, .int .i64 x.fr, .int .i64 x.page, .int .i64 x.too, .bool x.wr, .int .i64 x.at_] 23) = w4 at *
  have U4 := Lib.hid (U3.out.step T4.out.b)
  have V4 := Lib.hid (V1.out.step U4.out.b)
  have c1 : w4.cell? ⟨w3.heap.size, 3, none⟩ = some (.int .i64 x.too) := T4.out.k.cellAt (i := 3) rfl
  have c5 : w4.cell? ⟨w3.heap.size, 5, none⟩ = some (.int .i64 x.at_) := T4.out.k.cellAt (i := 5) rfl
  have hbz := Lib.hid (U4.out.setAll BC (by rw [HL.out, hb, HZL.out]))
  have OB : Hid (∀ v ∈ BC, v.oneCell' = true) := by rw [← HB.out]; exact bookCells_one b
  clear U3
  by_cases he : er = 0
  · subst he
    obtain ⟨k, rfl⟩ := Int.eq_ofNat_of_zero_le (HGO.out rfl).1
    have hk16 := (HGO.out rfl).2.1
    have hbk := (HGO.out rfl).2.2
    by_cases hf : x.too = vm
    · by_cases ha : 0 ≤ x.at_
      · have HR : res = (b, 8) := by rw [HW.out]; simp [hf, ha]
        have hd0 : (x.too != vm) = false := by simp [hf]
        have hd1 : decide (0 ≤ x.at_) = true := decide_eq_true ha
        go_wp2_with (first | refine wpList_load_mid rfl 25 (.tmp 4) rfl w.heap.size 0 rfl BC _ (range_all V4.out.k) Try.underlying25 rfl IB.out ?_ | refine wpList_store_mid rfl 25 (.tmp 8) (.tmp 33) rfl w1.heap.size 0 BC.toArray rfl rfl (there_of_blk U4.out.k (by have h1 := HL.out; have h2 := HZL.out; simp; omega)) (by simpa using IB.out) (all_oneCell_toArray OB.out) ?_)
        refine bodyPost_ret (v := .tuple #[.agg BC.toArray, .int .i64 8]) (results_ct Try.results11 _ _ w1.heap.size BC _ rfl (range_all hbz.out.k) Try.underlying25 rfl IB.out) rfl ⟨by (try rw [HR]); exact congrArg (fun z : List Value => Ending.returned (.tuple #[.agg z.toArray, _])) HB.out.symm, (V1.out.step hbz.out.b).b⟩
      · have hd0 : (x.too != vm) = false := by simp [hf]
        have hd1 : decide (0 ≤ x.at_) = false := decide_eq_false ha
        go_wp2_with fail
        refine (right_calls _ _ _).mono ?_
        rintro e w9 ⟨rfl, rfl⟩
        cases hrt : rightL vm pg with
        | false =>
          have HR : res = (b, 1) := by rw [HW.out]; simp [hf, ha, hrt]
          go_wp2_with (first | refine wpList_load_mid rfl 25 (.tmp 4) rfl w.heap.size 0 rfl BC _ (range_all V4.out.k) Try.underlying25 rfl IB.out ?_ | refine wpList_store_mid rfl 25 (.tmp 8) (.tmp 39) rfl w1.heap.size 0 BC.toArray rfl rfl (there_of_blk U4.out.k (by have h1 := HL.out; have h2 := HZL.out; simp; omega)) (by simpa using IB.out) (all_oneCell_toArray OB.out) ?_)
          refine bodyPost_ret (v := .tuple #[.agg BC.toArray, .int .i64 1]) (results_ct Try.results11 _ _ w1.heap.size BC _ rfl (range_all hbz.out.k) Try.underlying25 rfl IB.out) rfl ⟨by (try rw [HR]); exact congrArg (fun z : List Value => Ending.returned (.tuple #[.agg z.toArray, _])) HB.out.symm, (V1.out.step hbz.out.b).b⟩
        | true =>
        have HR : res = (b.set k { x with at_ := pg }, 0) := by rw [HW.out]; simp [hf, ha, hrt]
        have hkn : k < 16 := by omega
        have hk0 : 0 ≤ (k : Int) := by omega
        have hki : (k : Int) < 16 := by omega
        rw [Int.toNat_natCast] at hbk
        have ck : w4.cell? ⟨w.heap.size, k * 6 + 5, none⟩ = some (.int .i64 x.at_) := V4.out.k.cellAt (by rw [← HB.out]; exact bookCells_get b hbk (j := 5) (by omega))
        have fk := V4.out.k.unfrozen (k * 6 + 5)
        have hset : Hid (Blk (w4.setCell ⟨w.heap.size, k * 6 + 5, none⟩ (.int .i64 pg)) w.heap.size (bookCells (b.set k { x with at_ := pg })) 25) := by
          rw [← bookCells_setAt b hbk, HB.out]
          exact V4.out.k.set _ _
        have hV5 : Hid (Below w.heap.size w (w4.setCell ⟨w.heap.size, k * 6 + 5, none⟩ (.int .i64 pg))) := V4.out.b.setCell (Nat.le_refl _) _
        have hU5 : Hid (Blk (w4.setCell ⟨w.heap.size, k * 6 + 5, none⟩ (.int .i64 pg)) w1.heap.size ZC 25) := U4.out.k.other (by have := V1.out.z; show w.heap.size ≠ w1.heap.size; omega) _
        go_upto_region 11 with (fail)
        generalize w4.setCell ⟨w.heap.size, k * 6 + 5, none⟩ (.int .i64 pg) = w5 at *
        have HNC : Hid (∃ NC, bookCells (b.set k { x with at_ := pg }) = NC) := ⟨_, rfl⟩
        obtain ⟨NC, hNC⟩ := HNC.out
        have HN2 := Lib.hid hNC
        have LN := Lib.hid (show NC.length = 96 by rw [← hNC, bookCells_length, List.length_set, hb])
        have ON : Hid (∀ v ∈ NC, v.oneCell' = true) := by rw [← hNC]; exact bookCells_one _
        rw [hNC] at hset
        clear hNC HNC
        have IN := Lib.hid (show (Try.prog.info? 25).map (·.size) = some NC.length by rw [LN.out, size96])
        have hbz6 := Lib.hid (blk_setAll hU5.out (vs := NC) (by rw [LN.out, HZL.out]))
        go_wp2_with (first | refine wpList_load_mid rfl 25 (.tmp 4) rfl w.heap.size 0 rfl NC _ (range_all hset.out) Try.underlying25 rfl IN.out ?_ | refine wpList_store_mid rfl 25 (.tmp 8) (.tmp 44) rfl w1.heap.size 0 NC.toArray rfl rfl (there_of_blk hU5.out (by have h1 := LN.out; have h2 := HZL.out; simp; omega)) (by simpa using IN.out) (all_oneCell_toArray ON.out) ?_)
        refine bodyPost_ret (v := .tuple #[.agg NC.toArray, .int .i64 0]) (results_ct Try.results11 _ _ w1.heap.size NC _ rfl (range_all hbz6.out) Try.underlying25 rfl IN.out) rfl ⟨by (try rw [HR]); (try rw [← hf]); exact congrArg (fun z : List Value => Ending.returned (.tuple #[.agg z.toArray, _])) HN2.out.symm, below_setCells hV5.out (by have := V1.out.z; omega) _ _⟩
    · have HR : res = (b, 7) := by rw [HW.out]; simp [hf]
      have hd0 : (x.too != vm) = true := by simpa using hf
      go_wp2_with (first | refine wpList_load_mid rfl 25 (.tmp 4) rfl w.heap.size 0 rfl BC _ (range_all V4.out.k) Try.underlying25 rfl IB.out ?_ | refine wpList_store_mid rfl 25 (.tmp 8) (.tmp 28) rfl w1.heap.size 0 BC.toArray rfl rfl (there_of_blk U4.out.k (by have h1 := HL.out; have h2 := HZL.out; simp; omega)) (by simpa using IB.out) (all_oneCell_toArray OB.out) ?_)
      refine bodyPost_ret (v := .tuple #[.agg BC.toArray, .int .i64 7]) (results_ct Try.results11 _ _ w1.heap.size BC _ rfl (range_all hbz.out.k) Try.underlying25 rfl IB.out) rfl ⟨by (try rw [HR]); exact congrArg (fun z : List Value => Ending.returned (.tuple #[.agg z.toArray, _])) HB.out.symm, (V1.out.step hbz.out.b).b⟩
  · have HR : res = (b, er) := by rw [HW.out]; simp [he]
    have hd0 : (er != 0) = true := by simpa using he
    go_wp2_with (first | refine wpList_load_mid rfl 25 (.tmp 4) rfl w.heap.size 0 rfl BC _ (range_all V4.out.k) Try.underlying25 rfl IB.out ?_ | refine wpList_store_mid rfl 25 (.tmp 8) (.tmp 21) rfl w1.heap.size 0 BC.toArray rfl rfl (there_of_blk U4.out.k (by have h1 := HL.out; have h2 := HZL.out; simp; omega)) (by simpa using IB.out) (all_oneCell_toArray OB.out) ?_)
    refine bodyPost_ret (v := .tuple #[.agg BC.toArray, .int .i64 er]) (results_ct Try.results11 _ _ w1.heap.size BC _ rfl (range_all hbz.out.k) Try.underlying25 rfl IB.out) rfl ⟨by (try rw [HR]); exact congrArg (fun z : List Value => Ending.returned (.tuple #[.agg z.toArray, _])) HB.out.symm, (V1.out.step hbz.out.b).b⟩
end Go.Proofs.Ytlbphkeiapnigaa.Walks
