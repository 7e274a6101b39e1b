/- Walks through the functions of the statement, and the statement over them: each contract says what the call answers and that nothing else changes. -/
import Derived.Test.YtfjpdcalogfhbaaProg
import Derived.Test.YtfjpdcalogfhbaaBits
import Derived.Test.YtfjpdcalogfhbaaHeap
import Derived.Test.YtfjpdcalogfhbaaAid
import Derived.Lib.Hide
import Derived.Test.YtfjpdcalogfhbaaArr
import Derived.Test.YtfjpdcalogfhbaaEql
import Derived.WalkKit
import Derived.WalkSpells
import Derived.WalkLawsBesides
import Derived.Deep.QuietTactic
import Derived.BigQuiet
import Derived.Deep.RegionHeld3
import Derived.Deep.DeepCutAuto
import Derived.Deep.CutBlock
import Derived.Lib.SlBytesConst
import Derived.StillTailTactics
import Derived.Laws.MakeOwn
import Derived.Deep.AppendLies
import Derived.Laws.CopyOwn
import Derived.RegionTactic
namespace Go.Proofs.Ytfjpdcalogfhbaa.Walks
set_option linter.unusedVariables false
set_option linter.unusedSimpArgs false
open Go.RowKit Go.Proofs.Ytfjpdcalogfhbaa.Bits Go.Proofs.Ytfjpdcalogfhbaa.Heap Go.Proofs.Ytfjpdcalogfhbaa.Aid Go.Proofs.Ytfjpdcalogfhbaa.Arr Go.Proofs.Ytfjpdcalogfhbaa.Eql

theorem ret_int {k : IntKind} {a b : Int} (h : a = b) : Ending.returned (.int k a) = .returned (.int k b) := by rw [h]
theorem ret_bool {a b : Bool} (h : a = b) : Ending.returned (.bool a) = .returned (.bool b) := by rw [h]
/-- The block that holds the instruction, in any later world. -/
structure Inv (w : World) (cs : List Value) (t : TypeId) (w' : World) : Prop where
  b : Below w.heap.size w w'
  k : Blk w' w.heap.size cs t
  z : w.heap.size < w'.heap.size
theorem Inv.step {w w1 w2 : World} {cs : List Value} {t : TypeId} (h : Inv w cs t w1) (hb : Below w1.heap.size w1 w2) : Inv w cs t w2 :=
  ⟨h.b.trans (hb.mono h.b.size), h.k.below hb h.z, Nat.lt_of_lt_of_le h.z hb.size⟩
theorem Inv.drewN {w w1 : World} {cs : List Value} {t : TypeId} (h : Inv w cs t w1) (m : Nat) : Inv w cs t (w1.drewN m) :=
  ⟨below_drewN h.b m, h.k.drewN m, h.z⟩
theorem Inv.new (w : World) (A : Array Value) (t : TypeId) : Inv w A.toList t (w.alloc (.cells A t)) :=
  ⟨(Below.refl _ _).alloc (Nat.le_refl _) _, Blk.new w _ _, by simp⟩
theorem Inv.set {w w1 : World} {cs : List Value} {t : TypeId} (h : Inv w cs t w1) (k : Nat) (v : Value) : Inv w (cs.set k v) t (w1.setCell ⟨w.heap.size, k, none⟩ v) :=
  ⟨h.b.setCell (Nat.le_refl _) v, h.k.set k v, by have := h.z; simpa [World.setCell] using this⟩
theorem Inv.setAll {w w1 : World} {cs : List Value} {t : TypeId} (h : Inv w cs t w1) (vs : List Value) (hl : vs.length = cs.length) : Inv w vs t (w1.setCells w.heap.size 0 vs) :=
  ⟨below_setCells h.b (Nat.le_refl _) 0 vs, blk_setAll h.k hl, by have := h.z; rw [size_setCells]; exact this⟩
/-- A call that writes block b alone (of those that were), which then holds these cells. -/
structure Upd (b : Nat) (cs : List Value) (t : TypeId) (w w' : World) : Prop where
  k : Keep (fun i => i = b) w w'
  c : Blk w' b cs t
theorem Upd.same {b : Nat} {cs : List Value} {t : TypeId} {w : World} (h : Blk w b cs t) : Upd b cs t w w := ⟨Keep.refl _ _, h⟩
theorem Upd.drewN {b : Nat} {cs : List Value} {t : TypeId} {w w' : World} (h : Upd b cs t w w') (n : Nat) : Upd b cs t w (w'.drewN n) := ⟨h.k.drewN n, h.c.drewN n⟩
theorem Upd.set {b : Nat} {cs : List Value} {t : TypeId} {w w' : World} (h : Upd b cs t w w') (i : Nat) (v : Value) : Upd b (cs.set i v) t w (w'.setCell ⟨b, i, none⟩ v) :=
  ⟨h.k.setCell (fun _ => rfl) v, h.c.set i v⟩
theorem Upd.setAll {b : Nat} {cs : List Value} {t : TypeId} {w w' : World} (h : Upd b cs t w w') (vs : List Value) (hl : vs.length = cs.length) : Upd b vs t w (w'.setCells b 0 vs) :=
  ⟨keep_setCells h.k (fun _ => rfl) 0 vs, blk_setAll h.c hl⟩
theorem Upd.trans {b : Nat} {cs cs' : List Value} {t t' : TypeId} {w w' w'' : World} (h : Upd b cs t w w') (k : Upd b cs' t' w' w'') : Upd b cs' t' w w'' := ⟨h.k.trans k.k, k.c⟩
theorem Upd.step {b : Nat} {cs : List Value} {t : TypeId} {w w' w'' : World} (h : Upd b cs t w w') (k : Below w'.heap.size w' w'') : Upd b cs t w w'' :=
  ⟨h.k.step (S' := fun _ => False) (Keep.of_below k) (fun _ _ h => h.elim), h.c.below k h.c.lt⟩
theorem Upd.below {b : Nat} {cs : List Value} {t : TypeId} {w0 w w' : World} (h : Upd b cs t w w') (h0 : Below w0.heap.size w0 w) (hb : w0.heap.size ≤ b) : Below w0.heap.size w0 w' :=
  Keep.belowB h0 h.k h0.size (fun i hi e => by omega)
theorem Upd.blk {b b' : Nat} {cs cs' : List Value} {t t' : TypeId} {w w' : World} (h : Upd b cs t w w') (k : Blk w b' cs' t') (hb : b' ≠ b) : Blk w' b' cs' t' := k.keep h.k hb
theorem Inv.upd {w w1 w2 : World} {cs cs' : List Value} {t t' : TypeId} (h : Inv w cs t w1) (u : Upd w.heap.size cs' t' w1 w2) : Inv w cs' t' w2 :=
  ⟨u.below h.b (Nat.le_refl _), u.c, Nat.lt_of_lt_of_le h.z u.k.size⟩
theorem Inv.other {w w1 w2 : World} {cs cs' : List Value} {t t' : TypeId} {b : Nat} (h : Inv w cs t w1) (u : Upd b cs' t' w1 w2) (hb : w.heap.size < b) : Inv w cs t w2 :=
  ⟨u.below h.b (Nat.le_of_lt hb), u.blk h.k (by omega), Nat.lt_of_lt_of_le h.z u.k.size⟩
/-- A block of the call's own (made since w) that holds these cells; nothing that was there at w has changed. -/
structure Own (w : World) (b : Nat) (cs : List Value) (t : TypeId) (w' : World) : Prop where
  bel : Below w.heap.size w w'
  n : w.heap.size ≤ b
  k : Blk w' b cs t
theorem Own.lt {w w1 : World} {b : Nat} {cs : List Value} {t : TypeId} (h : Own w b cs t w1) : b < w1.heap.size := h.k.lt
theorem Own.new {w w1 : World} (hb : Below w.heap.size w w1) (A : Array Value) (t : TypeId) : Own w w1.heap.size A.toList t (w1.alloc (.cells A t)) :=
  ⟨hb.alloc hb.size _, hb.size, Blk.new w1 _ _⟩
theorem Own.newL {w w1 : World} (hb : Below w.heap.size w w1) (cs : List Value) (t : TypeId) : Own w w1.heap.size cs t (w1.alloc (.cells cs.toArray t)) := Own.new hb cs.toArray t
theorem Own.alloc {w w1 : World} {b : Nat} {cs : List Value} {t : TypeId} (h : Own w b cs t w1) (o : Obj) : Own w b cs t (w1.alloc o) := ⟨h.bel.alloc h.bel.size _, h.n, h.k.alloc o⟩
theorem Own.step {w w1 w2 : World} {b : Nat} {cs : List Value} {t : TypeId} (h : Own w b cs t w1) (hb : Below w1.heap.size w1 w2) : Own w b cs t w2 :=
  ⟨h.bel.trans (hb.mono h.bel.size), h.n, h.k.below hb h.lt⟩
theorem Own.drewN {w w1 : World} {b : Nat} {cs : List Value} {t : TypeId} (h : Own w b cs t w1) (m : Nat) : Own w b cs t (w1.drewN m) := ⟨below_drewN h.bel m, h.n, h.k.drewN m⟩
theorem Own.set {w w1 : World} {b : Nat} {cs : List Value} {t : TypeId} (h : Own w b cs t w1) (k : Nat) (v : Value) : Own w b (cs.set k v) t (w1.setCell ⟨b, k, none⟩ v) :=
  ⟨h.bel.setCell h.n v, h.n, h.k.set k v⟩
theorem Own.setAll {w w1 : World} {b : Nat} {cs : List Value} {t : TypeId} (h : Own w b cs t w1) (vs : List Value) (hl : vs.length = cs.length) : Own w b vs t (w1.setCells b 0 vs) :=
  ⟨below_setCells h.bel h.n 0 vs, h.n, blk_setAll h.k hl⟩
theorem Own.setO {w w1 : World} {b b' : Nat} {cs : List Value} {t : TypeId} (h : Own w b cs t w1) (hb : b' ≠ b) (hn : w.heap.size ≤ b') (k : Nat) (v : Value) : Own w b cs t (w1.setCell ⟨b', k, none⟩ v) :=
  ⟨h.bel.setCell hn v, h.n, h.k.other hb v⟩
theorem Own.setAllO {w w1 : World} {b b' : Nat} {cs : List Value} {t : TypeId} (h : Own w b cs t w1) (hb : b' ≠ b) (hn : w.heap.size ≤ b') (o : Nat) (vs : List Value) : Own w b cs t (w1.setCells b' o vs) :=
  ⟨below_setCells h.bel hn o vs, h.n, blk_setOther h.k (Ne.symm hb) o vs⟩
theorem Own.upd {w w1 w2 : World} {b : Nat} {cs cs' : List Value} {t t' : TypeId} (h : Own w b cs t w1) (u : Upd b cs' t' w1 w2) : Own w b cs' t' w2 := ⟨u.below h.bel h.n, h.n, u.c⟩
theorem Own.updO {w w1 w2 : World} {b b' : Nat} {cs cs' : List Value} {t t' : TypeId} (h : Own w b cs t w1) (hb : b' ≠ b) (hn : w.heap.size ≤ b') (u : Upd b' cs' t' w1 w2) : Own w b cs t w2 := ⟨u.below h.bel hn, h.n, u.blk h.k (Ne.symm hb)⟩
theorem Own.cell {w w1 : World} {b : Nat} {cs : List Value} {t : TypeId} (h : Own w b cs t w1) {i : Nat} {v : Value} (hv : cs[i]? = some v) : w1.cell? ⟨b, i, none⟩ = some v := h.k.cellAt hv
theorem Own.fro {w w1 : World} {b : Nat} {cs : List Value} {t : TypeId} (h : Own w b cs t w1) (i : Nat) : w1.frozen? ⟨b, i, none⟩ = false := h.k.unfrozen i
theorem Own.all {w w1 : World} {b : Nat} {cs : List Value} {t : TypeId} (h : Own w b cs t w1) : w1.rangeAt b 0 cs := range_all h.k
theorem Own.there {w w1 : World} {b : Nat} {cs : List Value} {t : TypeId} (h : Own w b cs t w1) {n : Nat} (hn : n ≤ cs.length) : w1.there b 0 n := there_of_blk h.k (by omega)
theorem Own.drew' {w w1 w2 : World} {b : Nat} {cs : List Value} {t : TypeId} (h : Own w b cs t w1) (hm : ∃ n, w2 = w1.drewN n) : Own w b cs t w2 := by
  obtain ⟨n, rfl⟩ := hm
  exact h.drewN n
theorem Own.store {P : Program} {w w1 : World} {b : Nat} {cs : List Value} {t : TypeId} (h : Own w b cs t w1) (vs : List Value) (hl : vs.length = cs.length) (h1 : ∀ v ∈ vs, v.oneCell' = true) :
    (storeCells ⟨b, 0, none⟩ vs).run P w1 = .ok () (w1.setCells b 0 vs) := by
  have ht := h.there (n := vs.length) (by omega)
  exact run_storeCells_cells (P := P) b 0 vs 0 w1 (fun j hj => by simpa using (ht j hj).1) (fun j hj => by simpa using (ht j hj).2) h1
/-- A quiet call behind quiet regions. -/
theorem quiet_add_left {P : Program} {f : FuncId} {args : Array Value} {w : World} {a n : Nat} {v : Value}
    (h : Calls P f args (w.drewN (a + n)) fun e w' => e = .returned v ∧ w.drewN (a + n) = w') :
    Calls P f args (w.drewN (a + n)) fun e w'' => e = .returned v ∧ ∃ m, w'' = w.drewN (a + m) :=
  h.mono fun _ _ ⟨he, hm⟩ => ⟨he, n, hm.symm⟩
theorem quiet_left {P : Program} {f : FuncId} {args : Array Value} {w : World} {n : Nat} {v : Value}
    (h : Calls P f args (w.drewN n) fun e w' => e = .returned v ∧ w.drewN n = w') : Calls P f args (w.drewN n) fun e w'' => e = .returned v ∧ ∃ m, w'' = w.drewN m :=
  h.mono fun _ _ ⟨he, hm⟩ => ⟨he, n, hm.symm⟩
theorem quiet_add {P : Program} {f : FuncId} {args : Array Value} {w : World} {a n : Nat} {v : Value}
    (h : Calls P f args (w.drewN (a + n)) fun e w' => e = .returned v ∧ ∃ m, w' = (w.drewN (a + n)).drewN m) :
    Calls P f args (w.drewN (a + n)) fun e w'' => e = .returned v ∧ ∃ m, w'' = w.drewN (a + m) :=
  h.mono fun _ _ ⟨he, m, hm⟩ => ⟨he, n + m, by rw [hm, World.drewN_drewN, Nat.add_assoc]⟩
/-- A world in which a row of the call's own has grown. -/
theorem keep_grown {w w' : World} {row : Option Nat} (h : w.grownBy w' row) : Keep (fun i => row = some i) w w' :=
  ⟨h.os, h.tape, h.output, h.size, fun k hk hs => h.block k hk (fun e => hs e.symm)⟩
theorem below_grown {w0 w w' : World} {row : Option Nat} (hb : Below w0.heap.size w0 w) (h : w.grownBy w' row) (hr : ∀ k, row = some k → w0.heap.size ≤ k) : Below w0.heap.size w0 w' :=
  Keep.belowB hb (keep_grown h) hb.size (fun i hi e => by have := hr i e; omega)
theorem sl_form {w : World} {base : Nat} {e : TypeId} {size : Nat} {v : Value} {n : Nat} {xs : List Value} (h : w.ownsRow base e size v n xs) (hn : 0 < n) :
    ∃ g cap sp, v = .slice (some ⟨g, 0, none⟩) n cap ∧ base ≤ g ∧ n ≤ cap ∧ cap ≤ maxLen ∧ Blk w g (xs ++ sp) e := by
  rcases h.2 with ⟨_, h0⟩ | ⟨g, cap, cur, hv, hb, hg, hc, hm, hs, ht⟩
  · omega
  · refine ⟨g, cap, cur.toList.drop (n * size), hv, hb, hc, hm, ?_⟩
    have e1 : xs ++ cur.toList.drop (n * size) = cur.toList := by rw [← ht, List.take_append_drop]
    unfold Blk
    rw [e1]
    simpa using hg
theorem sl_zero {w : World} {base : Nat} {e : TypeId} {size : Nat} {v : Value} {xs : List Value} (h : w.ownsRow base e size v 0 xs) : xs = [] := by
  have := h.1
  simpa using this
/-- A row of the call's own, in a world in which its block stands. -/
theorem sl_keep {w w' : World} {S : Nat → Prop} {base : Nat} {e : TypeId} {size : Nat} {v : Value} {n : Nat} {xs : List Value} (h : w.ownsRow base e size v n xs) (k : Keep S w w') (hs : ∀ g, v.ownBlock = some g → ¬ S g) : w'.ownsRow base e size v n xs := by
  refine ⟨h.1, ?_⟩
  rcases h.2 with h0 | ⟨g, cap, cur, hv, hb, hg, hr⟩
  · exact .inl h0
  · refine .inr ⟨g, cap, cur, hv, hb, ?_, hr⟩
    have hl : g < w.heap.size := by
      rcases Nat.lt_or_ge g w.heap.size with h1 | h1
      · exact h1
      · rw [Array.getElem?_eq_none h1] at hg; cases hg
    rw [k.block g hl (hs g (by rw [hv]; rfl)), hg]
theorem sl_below {w w' : World} {base : Nat} {e : TypeId} {size : Nat} {v : Value} {n : Nat} {xs : List Value} (h : w.ownsRow base e size v n xs) (hb : Below w.heap.size w w') : w'.ownsRow base e size v n xs :=
  sl_keep (S := fun _ => False) h (Keep.of_below hb) (fun _ _ h => h)
theorem news_blk {w : World} {b : Nat} {cs sp : List Value} {t : TypeId} (h : Blk w b (cs ++ sp) t) : ∀ j u, cs[j]? = some u → w.cell? ((⟨b, 0, none⟩ : Addr).add j) = some u := fun j u hu => by
  rw [add_blk]
  refine h.cellAt ?_
  have hj : j < cs.length := by
    rcases Nat.lt_or_ge j cs.length with h1 | h1
    · exact h1
    · rw [List.getElem?_eq_none h1] at hu; cases hu
  rw [List.getElem?_append_left hj, hu]
theorem leB8 (v : Nat) : (leB 8 v).map enc8 = [.int .u8 ((v : Int) % 256), .int .u8 ((v : Int) / 256 % 256), .int .u8 ((v : Int) / 65536 % 256), .int .u8 ((v : Int) / 16777216 % 256), .int .u8 ((v : Int) / 4294967296 % 256), .int .u8 ((v : Int) / 1099511627776 % 256), .int .u8 ((v : Int) / 281474976710656 % 256), .int .u8 ((v : Int) / 72057594037927936 % 256)] := by
  simp only [leB, enc8, List.map_cons, List.map_nil, Nat.div_div_eq_div_mul, Int.natCast_emod, Int.natCast_ediv]
  rfl
set_option maxHeartbeats 1000000 in
theorem bytes_calls (v : Nat) (w : World) :
    Calls Try.prog 10 #[.int .u64 v] w fun e w' => e = .returned (.slice (some ⟨w.heap.size, 0, none⟩) 8 8) ∧ w' = w.alloc (.cells ((leB 8 v).map enc8).toArray 5) := by
  have hmk : ∀ w, (Instr.makeSlice 27 (.int .i64 8) (.int .i64 8)).run Try.prog w = .ok (.slice (some ⟨w.heap.size, 0, none⟩) 8 8) (w.alloc (.cells #[.int .u8 0, .int .u8 0, .int .u8 0, .int .u8 0, .int .u8 0, .int .u8 0, .int .u8 0, .int .u8 0] 5)) := fun _ => by kernel_rfl
  have H8 : Hid ((leB 8 v).map enc8 = _) := leB8 v
  go_enter Try.func10, Try.ntmps10
  go_wp2
  refine wp_loop_rounds 9 ?_
  iterate 9 (rw [rounds_succ]; go_wp2)
  go_ret
  rw [H8.out]
  exact ⟨rfl, rfl⟩
theorem of_step {k b : Nat} (hk : k < 8) (l : List Nat) (hl : l.length = k) (hx : ∀ x ∈ l, x < 256) (hb : b < 256) :
    bits .or .u64 ((ofB l : Nat) : Int) (IntKind.u64.wrap ((b : Int) * 2 ^ (8 * k))) = ((ofB (l ++ [b]) : Nat) : Int) := by
  have h1 := ofB_lt l hx
  rw [hl] at h1
  have e2 : (256 : Nat) ^ k = 2 ^ (8 * k) := by rw [Nat.pow_mul]
  rw [e2] at h1
  have h2 : b * 2 ^ (8 * k) < 2 ^ (8 * k + 8) := by rw [Nat.pow_add, Nat.mul_comm]; exact Nat.mul_lt_mul_of_pos_left hb (pow_pos _)
  have h3 : 2 ^ (8 * k + 8) ≤ 2 ^ 64 := Nat.pow_le_pow_right (by omega) (by omega)
  have h4 : 2 ^ (8 * k) ≤ 2 ^ 64 := Nat.pow_le_pow_right (by omega) (by omega)
  have e3 : (b : Int) * 2 ^ (8 * k) = ((b * 2 ^ (8 * k) : Nat) : Int) := by simp
  rw [e3, wrap_lt (k := .u64) rfl (Nat.lt_of_lt_of_le h2 h3), bits_or (k := .u64) rfl (Nat.lt_of_lt_of_le h1 h4) (Nat.lt_of_lt_of_le h2 h3), ofB_snoc, hl, e2, Nat.or_comm, Nat.mul_comm, ← Nat.two_pow_add_eq_or_of_lt h1, Nat.add_comm]
theorem take_snoc8 (l : List Nat) (k : Nat) (h : k < l.length) (h8 : k < 8) : (l.take 8).take k ++ [l[k]] = (l.take 8).take (k + 1) := by
  have h9 : k < (l.take 8).length := by rw [List.length_take]; omega
  rw [List.take_succ_eq_append_getElem h9, List.getElem_take]
theorem take_all8 (l : List Nat) (k : Nat) (h8 : 8 ≤ k) : (l.take 8).take k = (l.take 8).take (k + 1) := by
  have h9 : (l.take 8).length ≤ k := by rw [List.length_take]; omega
  rw [List.take_of_length_le h9, List.take_of_length_le (Nat.le_succ_of_le h9)]
theorem take_end8 (l : List Nat) (k : Nat) (h : l.length ≤ k) : (l.take 8).take k = l.take 8 :=
  List.take_of_length_le (by rw [List.length_take]; omega)
set_option maxHeartbeats 1000000 in
theorem of_calls (l : List Nat) (v : Value) (w : World) (hr : Row w enc8 v l) (hx : ∀ x ∈ l, x < 256) (hn : l.length ≤ 9223372036854775807) :
    Calls Try.prog 19 #[v] w fun e w' => e = .returned (.int .u64 (ofB (l.take 8))) ∧ w = w' := by
  rcases hr with ⟨rfl, rfl⟩ | ⟨a, cap, rfl, _, hc⟩
  · go_enter Try.func19, Try.ntmps19
    go_wp2
    refine wp_loop_rounds 1 ?_
    rw [rounds_succ]
    go_wp2
    go_ret
    exact ⟨rfl, rfl⟩
  · go_enter Try.func19, Try.ntmps19
    go_wp2
    go_loop [3, 8] (fun x i => ∃ k : Nat, k ≤ l.length ∧ i = .int .i64 k ∧ x = .int .u64 (ofB ((l.take 8).take k))) (fun _ i => l.length - (intOf i).toNat)
    case atStart => exact ⟨0, Nat.zero_le _, rfl, rfl⟩
    case round =>
      obtain ⟨k, hk, rfl, rfl⟩ := hrel
      by_cases hlt : k < l.length
      · have hcell : w.cell? (a.add k) = some (.int .u8 ((l[k] : Nat) : Int)) := hc k _ (List.getElem?_eq_getElem hlt)
        have hb : l[k] < 256 := hx _ (List.getElem_mem hlt)
        by_cases h8 : k < 8
        · have hs := of_step h8 ((l.take 8).take k) (by simp; omega) (fun x h => hx x (List.mem_of_mem_take (List.mem_of_mem_take h))) hb
          rw [take_snoc8 l k hlt h8] at hs
          have hy0 : 0 ≤ ((l[k] : Nat) : Int) := by omega
          have hy1 : ((l[k] : Nat) : Int) < 256 := by omega
          have HS := Lib.hid hs
          clear hs hx hc hb
          generalize ((l[k] : Nat) : Int) = y at *
          go_wp2
          go_round
          case rel => exact ⟨k + 1, by omega, by go_num, by rw [← HS.out]⟩
          case measure => simp [intOf]; omega
        · have HT := Lib.hid (take_all8 l k (by omega))
          have hy0 : 0 ≤ ((l[k] : Nat) : Int) := by omega
          have hy1 : ((l[k] : Nat) : Int) < 256 := by omega
          clear hx hc hb
          generalize ((l[k] : Nat) : Int) = y at *
          go_wp2
          go_round
          case rel => exact ⟨k + 1, by omega, by go_num, by rw [HT.out]⟩
          case measure => simp [intOf]; omega
      · go_wp2
        go_ret
        exact ⟨ret_int (by rw [take_end8 l k (by omega)]), rfl⟩
/-- A store: its struct, and its bytes. -/
structure St (w : World) (p q : Nat) (l : List Nat) : Prop where
  hp : ∃ cap, l.length ≤ cap ∧ cap ≤ maxLen ∧ Blk w p [.slice (some ⟨q, 0, none⟩) l.length cap] 51
  hq : ∃ sp, Blk w q (l.map enc8 ++ sp) 5
  ne : p ≠ q
  le : l.length ≤ 131072
  bt : ∀ x ∈ l, x < 256
theorem St.c {w : World} {p q : Nat} {l : List Nat} (h : St w p q l) : ∃ cap, l.length ≤ cap ∧ cap ≤ maxLen ∧ w.cell? ⟨p, 0, none⟩ = some (.slice (some ⟨q, 0, none⟩) l.length cap) := by
  obtain ⟨cap, h1, h2, h3⟩ := h.hp
  exact ⟨cap, h1, h2, h3.cellAt rfl⟩
theorem St.below {w w' : World} {p q : Nat} {l : List Nat} (h : St w p q l) (hb : Below w.heap.size w w') : St w' p q l := by
  obtain ⟨cap, h1, h2, h3⟩ := h.hp
  obtain ⟨sp, h4⟩ := h.hq
  exact ⟨⟨cap, h1, h2, h3.below hb h3.lt⟩, ⟨sp, h4.below hb h4.lt⟩, h.ne, h.le, h.bt⟩
theorem St.plt {w : World} {p q : Nat} {l : List Nat} (h : St w p q l) : p < w.heap.size := by
  obtain ⟨cap, _, _, h2⟩ := h.hp
  exact h2.lt
theorem St.qlt {w : World} {p q : Nat} {l : List Nat} (h : St w p q l) : q < w.heap.size := by
  obtain ⟨sp, h2⟩ := h.hq
  exact h2.lt
/-- What a call leaves of a store. -/
structure Su (p q : Nat) (l : List Nat) (w w' : World) : Prop where
  k : Keep (fun i => i = q) w w'
  b : St w' p q l
theorem Su.same {w : World} {p q : Nat} {l : List Nat} (h : St w p q l) : Su p q l w w := ⟨Keep.refl _ _, h⟩
theorem Su.trans {w w' w'' : World} {p q : Nat} {l l' : List Nat} (h : Su p q l w w') (k : Su p q l' w' w'') : Su p q l' w w'' := ⟨h.k.trans k.k, k.b⟩
theorem Su.step {w w' w'' : World} {p q : Nat} {l : List Nat} (h : Su p q l w w') (k : Below w'.heap.size w' w'') : Su p q l w w'' :=
  ⟨h.k.step (S' := fun _ => False) (Keep.of_below k) (fun _ _ h => h.elim), h.b.below k⟩
theorem Su.pre {w w' w'' : World} {p q : Nat} {l : List Nat} (h : Below w.heap.size w w') (k : Su p q l w' w'') : Su p q l w w'' :=
  ⟨(Keep.of_below (S := fun i => i = q) h).trans k.k, k.b⟩
theorem St.other {w w' : World} {p q p2 q2 : Nat} {l l2 : List Nat} (h : St w p q l) (u : Su p2 q2 l2 w w') (hp : p ≠ q2) (hq : q ≠ q2) : St w' p q l := by
  obtain ⟨cap, h1, h2, h3⟩ := h.hp
  obtain ⟨sp, h4⟩ := h.hq
  exact ⟨⟨cap, h1, h2, h3.keep u.k hp⟩, ⟨sp, h4.keep u.k hq⟩, h.ne, h.le, h.bt⟩
/-- A store of the call's own. -/
structure Os (w : World) (p q : Nat) (l : List Nat) (w' : World) : Prop where
  bel : Below w.heap.size w w'
  n : w.heap.size ≤ q
  k : St w' p q l
theorem Os.su {w w1 w2 : World} {p q : Nat} {l l' : List Nat} (h : Os w p q l w1) (u : Su p q l' w1 w2) : Os w p q l' w2 := ⟨Keep.belowB h.bel u.k h.bel.size (fun i hi e => by have := h.n; omega), h.n, u.b⟩
theorem Os.step {w w1 w2 : World} {p q : Nat} {l : List Nat} (h : Os w p q l w1) (hb : Below w1.heap.size w1 w2) : Os w p q l w2 := ⟨h.bel.trans (hb.mono h.bel.size), h.n, h.k.below hb⟩
theorem Os.new {w w1 w2 : World} {p : Nat} {l : List Nat} (hb : Below w.heap.size w w1) (k : St w2 p w1.heap.size l) (hb2 : Below w1.heap.size w1 w2) : Os w p w1.heap.size l w2 := ⟨hb.trans (hb2.mono hb.size), hb.size, k⟩
theorem Os.other {w w1 w2 : World} {p q p2 q2 : Nat} {l l2 : List Nat} (h : Os w p q l w1) (u : Su p2 q2 l2 w1 w2) (hn : w.heap.size ≤ q2) (hp : p ≠ q2) (hq : q ≠ q2) : Os w p q l w2 :=
  ⟨Keep.belowB h.bel u.k h.bel.size (fun i hi e => by omega), h.n, h.k.other u hp hq⟩
set_option maxHeartbeats 1000000 in
theorem frames_nil (w : World) : Calls Try.prog 15 #[.pointer none] w fun e w' => e = .returned (.int .i64 ((0 : Nat) : Int)) ∧ w = w' := by
  go_enter Try.func15, Try.ntmps15
  go_wp2
  go_ret
  exact ⟨rfl, rfl⟩
set_option maxHeartbeats 1000000 in
theorem frames_calls {p q : Nat} {l : List Nat} {w : World} (h : St w p q l) : Calls Try.prog 15 #[.pointer (some ⟨p, 0, none⟩)] w fun e w' => e = .returned (.int .i64 ((l.length / 256 : Nat) : Int)) ∧ w = w' := by
  obtain ⟨cap, h1, h2, c⟩ := h.c
  have hle := h.le
  clear h2
  go_enter Try.func15, Try.ntmps15
  go_wp2
  go_ret
  exact ⟨ret_int (by simp), rfl⟩
def atOk (N : Nat) (fr off n : Int) : Prop := 0 ≤ fr ∧ fr < N ∧ 0 ≤ off ∧ 0 ≤ n ∧ off ≤ 256 ∧ n ≤ 256 - off
instance (N : Nat) (fr off n : Int) : Decidable (atOk N fr off n) := by unfold atOk; exact inferInstance
def atR (N : Nat) (fr off n : Int) : Value := if atOk N fr off n then .tuple #[.int .i64 (256 * fr + off), .int .i64 0] else .tuple #[.int .i64 0, .int .i64 1]
theorem atR_yes {N : Nat} {fr off n : Int} (h : 0 ≤ fr ∧ fr < N ∧ 0 ≤ off ∧ 0 ≤ n ∧ off ≤ 256 ∧ n ≤ 256 - off) : Value.tuple #[.int .i64 (256 * fr + off), .int .i64 0] = atR N fr off n := (if_pos (c := atOk N fr off n) h).symm
theorem atR_no {N : Nat} {fr off n : Int} (h : ¬ (0 ≤ fr ∧ fr < N ∧ 0 ≤ off ∧ 0 ≤ n ∧ off ≤ 256 ∧ n ≤ 256 - off)) : Value.tuple #[.int .i64 0, .int .i64 1] = atR N fr off n := (if_neg (c := atOk N fr off n) h).symm
set_option maxHeartbeats 2000000 in
theorem at_calls (P : Value) (N : Nat) (hN : N ≤ 512) (fr off n : Int) (w : World) (hf : Calls Try.prog 15 #[P] w fun e w' => e = .returned (.int .i64 (N : Int)) ∧ w = w') :
    Calls Try.prog 20 #[P, .int .i64 fr, .int .i64 off, .int .i64 n] w fun e w' => e = .returned (atR N fr off n) ∧ w = w' := by
  have HF := Lib.hid hf
  have hN2 : (N : Int) ≤ 512 := by omega
  have hN0 : 0 ≤ (N : Int) := by omega
  clear hf hN
  have AY := Lib.hid (@atR_yes N fr off n)
  have AN := Lib.hid (@atR_no N fr off n)
  generalize atR N fr off n = R at *
  generalize (N : Int) = NI at *
  go_enter Try.func20, Try.ntmps20
  go_wp2_with (go_at_call 15; refine HF.out.mono ?_; rintro e w' ⟨rfl, rfl⟩)
  all_goals
    go_ret2
    refine ⟨?_, rfl⟩
    first
      | exact congrArg Ending.returned (AY.out (by omega))
      | exact congrArg Ending.returned (AN.out (by omega))
theorem byte_info : ∃ i, Try.prog.info? 5 = some i ∧ i.zero = some (.int .u8 0) ∧ i.size = 1 ∧ i.bytes = 1 := by
  have h : (Try.prog.info? 5).map (fun i => (i.zero, i.size, i.bytes)) = some (some (.int .u8 0), 1, 1) := by kernel_rfl
  obtain ⟨i, hi, he⟩ := Option.map_eq_some_iff.1 h
  simp only [Prod.mk.injEq] at he
  exact ⟨i, hi, he.1, he.2.1, he.2.2⟩
theorem one_enc8 (l : List Nat) : ∀ v ∈ l.map enc8, v.oneCell' = true := by
  intro v hv
  obtain ⟨x, _, rfl⟩ := List.mem_map.1 hv
  rfl
theorem add_off (q i j : Nat) : (⟨q, i, none⟩ : Addr).add j = ⟨q, i + j, none⟩ := by
  unfold Addr.add
  split
  · rename_i h; rw [h]; rfl
  · rfl
theorem bytes_at {w : World} {q : Nat} {l : List Nat} {sp : List Value} {t : TypeId} (h : Blk w q (l.map enc8 ++ sp) t) (i n : Nat) : ∀ j u, (((l.drop i).take n).map enc8)[j]? = some u → w.cell? ((⟨q, i, none⟩ : Addr).add j) = some u := fun j u hu => by
  rw [add_off]
  refine h.cellAt ?_
  rw [List.getElem?_map] at hu
  obtain ⟨x, hx, rfl⟩ := Option.map_eq_some_iff.1 hu
  have hj := (List.getElem?_eq_some_iff.1 hx).1
  rw [List.length_take, List.length_drop] at hj
  rw [List.getElem?_take, if_pos (by omega), List.getElem?_drop] at hx
  rw [List.getElem?_append_left (by rw [List.length_map]; omega), List.getElem?_map, hx]
  rfl
/-- A row of one's own reads as its list. -/
theorem row_owns {w : World} {base : Nat} {e : TypeId} {v : Value} {n : Nat} {l : List Nat} (h : w.ownsRow base e 1 v n (l.map enc8)) : Row w enc8 v l := by
  have hl : l.length = n := by have := h.1; simpa using this
  by_cases h0 : 0 < n
  · obtain ⟨g, cap, sp, rfl, _, hc, _, hb⟩ := sl_form h h0
    subst hl
    refine .inr ⟨⟨g, 0, none⟩, cap, rfl, hc, fun i x hi => ?_⟩
    exact news_blk hb i _ (by rw [List.getElem?_map, hi]; rfl)
  · have h1 : n = 0 := by omega
    subst h1
    have h2 : l = [] := List.eq_nil_of_length_eq_zero hl
    subst h2
    rcases h.2 with ⟨hv, _⟩ | ⟨g, cap, cur, hv, _, _, hc, _⟩
    · exact .inl ⟨hv, rfl⟩
    · exact .inr ⟨⟨g, 0, none⟩, cap, hv, hc, fun i x hi => by simp at hi⟩
def ReadP (w : World) (s : List Nat) (e : Ending) (w' : World) : Prop := ∃ v, e = .returned (.tuple #[v, .int .i64 0]) ∧ Row w' enc8 v s ∧ Below w.heap.size w w'
set_option maxHeartbeats 1000000 in
theorem read_bad (P : Value) (N : Nat) (hN : N ≤ 512) (fr off n : Int) (w : World) (hf : Calls Try.prog 15 #[P] w fun e w' => e = .returned (.int .i64 (N : Int)) ∧ w = w') (hno : ¬ atOk N fr off n) :
    Calls Try.prog 14 #[P, .int .i64 fr, .int .i64 off, .int .i64 n] w fun e w' => e = .returned (.tuple #[.slice none 0 0, .int .i64 1]) ∧ w = w' := by
  have HA := Lib.hid (at_calls P N hN fr off n w hf)
  rw [← atR_no hno] at HA
  clear hf hno hN
  go_enter Try.func14, Try.ntmps14
  go_wp2_with (go_at_call 20; refine HA.out.mono ?_; rintro e w' ⟨rfl, rfl⟩)
  go_ret2
  exact ⟨rfl, rfl⟩
set_option maxHeartbeats 2000000 in
theorem read_calls {p q : Nat} {l : List Nat} {w : World} (h : St w p q l) (fr off n : Nat) (hfr : fr < l.length / 256) (hoff : off ≤ 256) (hn : n ≤ 256 - off) :
    Calls Try.prog 14 #[.pointer (some ⟨p, 0, none⟩), .int .i64 (fr : Int), .int .i64 (off : Int), .int .i64 (n : Int)] w (ReadP w ((l.drop (256 * fr + off)).take n)) := by
  have hle := h.le
  have HA := Lib.hid (at_calls (.pointer (some ⟨p, 0, none⟩)) (l.length / 256) (by omega) (fr : Int) (off : Int) (n : Int) w (frames_calls h))
  rw [← atR_yes ⟨by omega, by omega, by omega, by omega, by omega, by omega⟩] at HA
  obtain ⟨i, hi⟩ : ∃ i, 256 * fr + off = i := ⟨_, rfl⟩
  have hi2 : 256 * (fr : Int) + (off : Int) = (i : Int) := by omega
  rw [hi2] at HA
  rw [hi]
  have hin : i + n ≤ l.length := by omega
  obtain ⟨cap, h1, h2, c⟩ := h.c
  obtain ⟨sp, hq⟩ := h.hq
  obtain ⟨ii, hii, hz, hs, hb⟩ := byte_info
  have HQ := Lib.hid (bytes_at hq i n)
  have HI := Lib.hid hii
  have HZ := Lib.hid hz
  have HS := Lib.hid hs
  have HB := Lib.hid hb
  have HL : Hid ((((l.drop i).take n).map enc8).length = n * 1) := by show _ = _; rw [List.length_map, List.length_take, List.length_drop]; omega
  have HO := Lib.hid (one_enc8 ((l.drop i).take n))
  have hn256 : n ≤ 256 := by omega
  have hil : i ≤ 131072 := by omega
  have hic : i + n ≤ cap := by omega
  have hcm : cap ≤ 9223372036854775807 := by unfold maxLen at h2; exact h2
  generalize (l.drop i).take n = s at *
  clear h hq hii hz hs hb hi hi2 hin hfr hoff hn hle h1 h2
  generalize l.length = len at *
  have k0 : (0 : Int) ≤ (i : Int) := by omega
  have k1 : (i : Int) ≤ (i : Int) + (n : Int) := by omega
  have k2 : (i : Int) + (n : Int) ≤ (cap : Int) := by omega
  rcases Nat.eq_zero_or_pos n with hn0 | hn0
  · subst hn0
    have hs0 : s = [] := by
      have := HL.out
      rw [List.length_map] at this
      exact List.eq_nil_of_length_eq_zero (by omega)
    subst hs0
    by_cases hci : cap = i
    · subst hci
      go_enter Try.func14, Try.ntmps14
      go_wp2_with (first | (go_at_call 20; refine HA.out.mono ?_; rintro e w' ⟨rfl, rfl⟩) | (at_builtin; refine wpList_append_own _ (by rfl) _ _ _ (by rfl) w.heap.size 5 ii _ 1 1 Try.underlying27 HI.out HZ.out HS.out HB.out (by rfl) (by omega) (.slice none 0 0) 0 [] (by rfl) (World.ownsRow_nil _ _ _ _) ⟨q, 0, none⟩ 0 0 [] (by rfl) (by rfl) (fun j u hu => by simp at hu) (fun u hu => by simp at hu) (by unfold maxLen; omega) (by omega) (Nat.le_refl _) ?_; intro v1 w1 hown hgrow hiff))
      go_ret2
      exact ⟨v1, rfl, row_owns (l := []) hown, below_grown (Below.refl _ _) hgrow (fun k hk => by cases hk)⟩
    · have hci' : ¬ (i = cap) := fun e => hci e.symm
      have hci2 : ¬ (cap ≤ i) := by omega
      have hci3 : ¬ (cap - i = 0) := by omega
      go_enter Try.func14, Try.ntmps14
      go_wp2_with (first | (go_at_call 20; refine HA.out.mono ?_; rintro e w' ⟨rfl, rfl⟩) | (at_builtin; refine wpList_append_own _ (by rfl) _ _ _ (by rfl) w.heap.size 5 ii _ 1 1 Try.underlying27 HI.out HZ.out HS.out HB.out (by rfl) (by omega) (.slice none 0 0) 0 [] (by rfl) (World.ownsRow_nil _ _ _ _) ⟨q, i, none⟩ 0 (cap - i) [] (by rfl) (by rfl) (fun j u hu => by simp at hu) (fun u hu => by simp at hu) (by unfold maxLen; omega) (by omega) (Nat.le_refl _) ?_; intro v1 w1 hown hgrow hiff))
      go_ret2
      exact ⟨v1, rfl, row_owns (l := []) hown, below_grown (Below.refl _ _) hgrow (fun k hk => by cases hk)⟩
  · have HL2 : Hid ((s.map enc8).length = (i + n - i) * 1) := by show _ = _; rw [HL.out]; omega
    have hci' : ¬ (i = cap) := by omega
    have hci2 : ¬ (cap ≤ i) := by omega
    have hci3 : ¬ (cap - i = 0) := by omega
    go_enter Try.func14, Try.ntmps14
    go_wp2_with (first | (go_at_call 20; refine HA.out.mono ?_; rintro e w' ⟨rfl, rfl⟩) | (at_builtin; refine wpList_append_own _ (by rfl) _ _ _ (by rfl) w.heap.size 5 ii _ 1 1 Try.underlying27 HI.out HZ.out HS.out HB.out (by rfl) (by omega) (.slice none 0 0) 0 [] (by rfl) (World.ownsRow_nil _ _ _ _) ⟨q, i, none⟩ (i + n - i) (cap - i) (s.map enc8) (by rfl) HL2.out HQ.out HO.out (by unfold maxLen; omega) (by omega) (Nat.le_refl _) ?_; intro v1 w1 hown hgrow hiff))
    all_goals
      go_ret2
      exact ⟨v1, rfl, row_owns hown, below_grown (Below.refl _ _) hgrow (fun k hk => by cases hk)⟩
theorem wpList_copy_any {P : Program} {w : World} {ops : Array Oper} {rest : List Oper} {o : Oper} {a : Act} {Q : Exit → Act → World → Prop} (hgd : o.guard = none) (d s : Operand) (dT sT : TypeId)
    (ho : o.op = .call { callee := .builtin .copy, args := #[d, s], argTypes := #[dT, sT] }) (elem : TypeId) (hu : P.underlying dT = some (.slice elem)) (hsz : (P.info? elem).map (·.size) = some 1)
    (g off dLen dCap : Nat) (ad : Addr) (sLen sCap : Nat) (hd : a.eval d = .slice (some ⟨g, off, none⟩) dLen dCap) (hs : a.eval s = .slice (some ad) sLen sCap) (cs : List Value) (hn : cs.length = Nat.min sLen dLen)
    (hsrc : ∀ j v, cs[j]? = some v → w.cell? (ad.add j) = some v) (hc : ∀ j, j < cs.length → (w.cell? ⟨g, off + j, none⟩).isSome = true) (hf : ∀ j, j < cs.length → w.frozen? ⟨g, off + j, none⟩ = false) (h1 : ∀ v ∈ cs, v.oneCell' = true)
    (h : wpList P ops Q rest (a.put o.dst (goInt cs.length)) (w.setCells g off cs)) : wpList P ops Q (o :: rest) a w := by
  refine wpList_plain hgd fun K hK => ?_
  have hrun := run_copy_cells (P := P) w dT sT o.type elem g off dLen dCap ad sLen sCap cs hu hsz hn hsrc hc hf h1
  unfold Oper.wp
  simp [execOp, ho, resolve, invoke, builtin, hd, hs, hrun, Result.andThen]
  exact hK _ _ h
def splice8 (l : List Nat) (i : Nat) (s : List Nat) : List Nat := l.take i ++ s ++ l.drop (i + s.length)
theorem splice8_len {l : List Nat} {i : Nat} {s : List Nat} (h : i + s.length ≤ l.length) : (splice8 l i s).length = l.length := by
  simp [splice8]; omega
theorem splice8_nil (l : List Nat) (i : Nat) : splice8 l i [] = l := by simp [splice8]
theorem splice8_mem {l : List Nat} {i : Nat} {s : List Nat} (hl : ∀ x ∈ l, x < 256) (hs : ∀ x ∈ s, x < 256) : ∀ x ∈ splice8 l i s, x < 256 := by
  intro x hx
  simp only [splice8, List.mem_append] at hx
  rcases hx with (hx | hx) | hx
  · exact hl x (List.mem_of_mem_take hx)
  · exact hs x hx
  · exact hl x (List.mem_of_mem_drop hx)
theorem st_write {p q : Nat} {l : List Nat} {w : World} (h : St w p q l) {i : Nat} {s : List Nat} (hi : i + s.length ≤ l.length) (hs : ∀ x ∈ s, x < 256) : Su p q (splice8 l i s) w (w.setCells q i (s.map enc8)) := by
  refine ⟨keep_setCells (S := fun j => j = q) (Keep.refl _ w) (b := q) (fun _ => rfl) i _, ?_, ?_, h.ne, by rw [splice8_len hi]; exact h.le, splice8_mem h.bt hs⟩
  · obtain ⟨cap, h1, h2, h3⟩ := h.hp
    rw [splice8_len hi]
    exact ⟨cap, h1, h2, blk_setOther h3 h.ne i _⟩
  · obtain ⟨sp, h4⟩ := h.hq
    refine ⟨sp, ?_⟩
    rcases Blk.setCells h4 i (s.map enc8) with h5 | h5
    · have e : (l.map enc8 ++ sp).take i ++ s.map enc8 ++ (l.map enc8 ++ sp).drop (i + (s.map enc8).length) = (splice8 l i s).map enc8 ++ sp := by
        rw [List.length_map, List.take_append_of_le_length (by rw [List.length_map]; omega), List.drop_append_of_le_length (by rw [List.length_map]; omega), splice8, List.map_append, List.map_append, ← List.map_take, ← List.map_drop]
        simp
      rw [e] at h5
      exact h5
    · exfalso
      simp at h5
      omega
theorem size1 : (Try.prog.info? 5).map (·.size) = some 1 := by kernel_rfl
set_option maxHeartbeats 1000000 in
theorem write_bad (P : Value) (N : Nat) (hN : N ≤ 512) (fr off : Int) (a : Option Addr) (n cap : Nat) (w : World) (hf : Calls Try.prog 15 #[P] w fun e w' => e = .returned (.int .i64 (N : Int)) ∧ w = w') (hno : ¬ atOk N fr off (n : Int)) :
    Calls Try.prog 13 #[P, .int .i64 fr, .int .i64 off, .slice a n cap] w fun e w' => e = .returned (.int .i64 1) ∧ w = w' := by
  have HA := Lib.hid (at_calls P N hN fr off (n : Int) w hf)
  rw [← atR_no hno] at HA
  clear hf hno hN
  go_enter Try.func13, Try.ntmps13
  go_wp2_with (go_at_call 20; refine HA.out.mono ?_; rintro e w' ⟨rfl, rfl⟩)
  go_ret
  exact ⟨rfl, rfl⟩
set_option maxHeartbeats 2000000 in
theorem write_calls {p q : Nat} {l : List Nat} {w : World} (h : St w p q l) (fr off : Nat) (v : Value) (s : List Nat) (hr : Row w enc8 v s) (hs : ∀ x ∈ s, x < 256) (hfr : fr < l.length / 256) (hoff : off ≤ 256) (hn : s.length ≤ 256 - off) :
    Calls Try.prog 13 #[.pointer (some ⟨p, 0, none⟩), .int .i64 (fr : Int), .int .i64 (off : Int), v] w fun e w' => e = .returned (.int .i64 0) ∧ Su p q (splice8 l (256 * fr + off) s) w w' := by
  have hle := h.le
  have HA := Lib.hid (at_calls (.pointer (some ⟨p, 0, none⟩)) (l.length / 256) (by omega) (fr : Int) (off : Int) (s.length : Int) w (frames_calls h))
  rw [← atR_yes ⟨by omega, by omega, by omega, by omega, by omega, by omega⟩] at HA
  obtain ⟨i, hi⟩ : ∃ i, 256 * fr + off = i := ⟨_, rfl⟩
  have hi2 : 256 * (fr : Int) + (off : Int) = (i : Int) := by omega
  rw [hi2] at HA
  rw [hi]
  have hin : i + s.length ≤ l.length := by omega
  have HU := Lib.hid (st_write h hin hs)
  obtain ⟨cap, h1, h2, c⟩ := h.c
  obtain ⟨sp, hq⟩ := h.hq
  have HSm := Lib.hid (Su.same h)
  have hic : i ≤ cap := by omega
  have hil : i ≤ l.length := by omega
  have hlc : l.length ≤ cap := h1
  have hl13 : l.length ≤ 131072 := hle
  have hcm : cap ≤ 9223372036854775807 := by unfold maxLen at h2; exact h2
  have k0 : (0 : Int) ≤ (i : Int) := by omega
  have k1 : (i : Int) ≤ (l.length : Int) := by omega
  have k2 : (l.length : Int) ≤ (cap : Int) := by omega
  rcases Nat.eq_zero_or_pos s.length with hs0 | hs0
  · have hsn : s = [] := List.eq_nil_of_length_eq_zero hs0
    subst hsn
    obtain ⟨a, scap, rfl⟩ := hr.form
    rw [splice8_nil]
    rw [List.length_nil] at HA ⊢
    clear h hq hi hi2 hin hfr hoff hn hle h1 h2 hr hs HU
    generalize l.length = len at *
    by_cases hci : cap = i
    · subst hci
      obtain rfl : len = cap := by omega
      go_enter Try.func13, Try.ntmps13
      go_wp2_with (first | (go_at_call 20; refine HA.out.mono ?_; rintro e w' ⟨rfl, rfl⟩) | (refine wpList_copy_nothing (by rfl) _ _ _ _ (by rfl) 5 Try.underlying27 size1 (some ⟨q, 0, none⟩) a 0 0 0 scap (by rfl) (by rfl) (by rfl) ?_))
      go_ret
      exact ⟨rfl, HSm.out⟩
    · have hci' : ¬ (i = cap) := fun e => hci e.symm
      have hci2 : ¬ (cap ≤ i) := by omega
      have hci3 : ¬ (cap - i = 0) := by omega
      go_enter Try.func13, Try.ntmps13
      go_wp2_with (first | (go_at_call 20; refine HA.out.mono ?_; rintro e w' ⟨rfl, rfl⟩) | (refine wpList_copy_nothing (by rfl) _ _ _ _ (by rfl) 5 Try.underlying27 size1 (some ⟨q, i, none⟩) a (len - i) (cap - i) 0 scap (by rfl) (by rfl) (by simp) ?_))
      go_ret
      exact ⟨rfl, HSm.out⟩
  · obtain ⟨ad, scap, rfl, hcell⟩ : ∃ ad scap, v = .slice (some ad) s.length scap ∧ ∀ i x, s[i]? = some x → w.cell? (ad.add i) = some (enc8 x) := by
      rcases hr with ⟨_, h0⟩ | ⟨ad, scap, h1, _, h2⟩
      · rw [h0] at hs0; simp at hs0
      · exact ⟨ad, scap, h1, h2⟩
    have HSRC : Hid (∀ j u, (s.map enc8)[j]? = some u → w.cell? (ad.add j) = some u) := by
      intro j u hu
      rw [List.getElem?_map] at hu
      obtain ⟨x, hx, rfl⟩ := Option.map_eq_some_iff.1 hu
      exact hcell j x hx
    have HC : Hid (∀ j, j < (s.map enc8).length → (w.cell? ⟨q, i + j, none⟩).isSome = true) := by
      intro j hj
      rw [List.length_map] at hj
      rw [hq.cell, List.getElem?_append_left (by rw [List.length_map]; omega), List.getElem?_map, List.getElem?_eq_getElem (by omega)]
      rfl
    have HF : Hid (∀ j, j < (s.map enc8).length → w.frozen? ⟨q, i + j, none⟩ = false) := fun j _ => hq.unfrozen _
    have HO := Lib.hid (one_enc8 s)
    have HLn : Hid ((s.map enc8).length = Nat.min s.length (l.length - i)) := by show _ = _; rw [List.length_map]; exact (Nat.min_eq_left (by omega)).symm
    have hsl : s.length ≤ 256 := by omega
    have hci2 : ¬ (cap ≤ i) := by omega
    have hci' : ¬ (i = cap) := by omega
    have hci3 : ¬ (cap - i = 0) := by omega
    clear h hq hi hi2 hfr hoff hn hle h1 h2 hr hs hcell hin
    generalize l.length = len at *
    generalize s.length = sl at *
    generalize s.map enc8 = S at *
    generalize splice8 l i s = L2 at *
    go_enter Try.func13, Try.ntmps13
    go_wp2_with (first | (go_at_call 20; refine HA.out.mono ?_; rintro e w' ⟨rfl, rfl⟩) | (refine wpList_copy_any (by rfl) _ _ _ _ (by rfl) 5 Try.underlying27 size1 q i (len - i) (cap - i) ad sl scap (by rfl) (by rfl) S HLn.out HSRC.out HC.out HF.out HO.out ?_))
    go_ret
    exact ⟨rfl, HU.out⟩
theorem atOk_iff {N : Nat} {fr off n : Int} : atOk N fr off n ↔ 0 ≤ fr ∧ fr < N ∧ 0 ≤ off ∧ 0 ≤ n ∧ off ≤ 256 ∧ n ≤ 256 - off := Iff.rfl
set_option maxHeartbeats 1000000 in
theorem load_bad (P : Value) (fr i : Int) (hi : i < 0 ∨ 32 ≤ i) (w : World) :
    Calls Try.prog 18 #[P, .int .i64 fr, .int .i64 i] w fun e w' => e = .returned (.tuple #[.int .u64 ((0 : Nat) : Int), .int .i64 1]) ∧ w = w' := by
  rcases hi with hi | hi
  · have hd : decide (i < 0) = true := decide_eq_true hi
    go_enter Try.func18, Try.ntmps18
    go_wp2
    go_ret2
    exact ⟨rfl, rfl⟩
  · have hd : decide (i < 0) = false := decide_eq_false (by omega)
    have hd2 : decide (32 ≤ i) = true := decide_eq_true hi
    go_enter Try.func18, Try.ntmps18
    go_wp2
    go_ret2
    exact ⟨rfl, rfl⟩
set_option maxHeartbeats 1000000 in
theorem load_none (P : Value) (N : Nat) (hN : N ≤ 512) (fr : Int) (i : Nat) (hi : i < 32) (w : World) (hf : Calls Try.prog 15 #[P] w fun e w' => e = .returned (.int .i64 (N : Int)) ∧ w = w') (hfr : fr < 0 ∨ (N : Int) ≤ fr) :
    Calls Try.prog 18 #[P, .int .i64 fr, .int .i64 (i : Int)] w fun e w' => e = .returned (.tuple #[.int .u64 ((0 : Nat) : Int), .int .i64 1]) ∧ w = w' := by
  have HR := Lib.hid (read_bad P N hN fr (8 * (i : Int)) 8 w hf (by rw [atOk_iff]; omega))
  have HO := Lib.hid (of_calls [] (.slice none 0 0) w (.inl ⟨rfl, rfl⟩) (by simp) (by simp))
  rw [show ofB (([] : List Nat).take 8) = 0 from rfl] at HO
  have hi0 : 0 ≤ (i : Int) := by omega
  have hi1 : (i : Int) < 32 := by omega
  clear hf hfr hN
  generalize (i : Int) = ii at *
  go_enter Try.func18, Try.ntmps18
  go_wp2_with (first | (go_at_call 14; refine HR.out.mono ?_; rintro e w' ⟨rfl, rfl⟩) | (go_at_call 19; refine HO.out.mono ?_; rintro e w' ⟨rfl, rfl⟩))
  go_ret2
  exact ⟨rfl, rfl⟩
set_option maxHeartbeats 1000000 in
theorem load_calls {p q : Nat} {l : List Nat} {w : World} (h : St w p q l) (fr i : Nat) (hfr : fr < l.length / 256) (hi : i < 32) :
    Calls Try.prog 18 #[.pointer (some ⟨p, 0, none⟩), .int .i64 (fr : Int), .int .i64 (i : Int)] w fun e w' => e = .returned (.tuple #[.int .u64 ((ofB ((l.drop (256 * fr + 8 * i)).take 8) : Nat) : Int), .int .i64 0]) ∧ Below w.heap.size w w' := by
  have HR := Lib.hid (read_calls h fr (8 * i) 8 hfr (by omega) (by omega))
  have hs : ∀ x ∈ (l.drop (256 * fr + 8 * i)).take 8, x < 256 := fun x hx => h.bt x (List.mem_of_mem_drop (List.mem_of_mem_take hx))
  have hl : ((l.drop (256 * fr + 8 * i)).take 8).length ≤ 8 := by rw [List.length_take]; omega
  have ht : ((l.drop (256 * fr + 8 * i)).take 8).take 8 = (l.drop (256 * fr + 8 * i)).take 8 := List.take_of_length_le hl
  generalize (l.drop (256 * fr + 8 * i)).take 8 = s at *
  have HO := Lib.hid (fun v W (h : Row W enc8 v s) => of_calls s v W h hs (by omega))
  rw [ht] at HO
  have hi0 : 0 ≤ (i : Int) := by omega
  have hi1 : (i : Int) < 32 := by omega
  rw [show ((8 * i : Nat) : Int) = 8 * (i : Int) by omega] at HR
  clear h hfr hs hl ht hi
  generalize ofB s = o at *
  generalize (i : Int) = ii at *
  go_enter Try.func18, Try.ntmps18
  go_wp2_with (first | (go_at_call 14; refine HR.out.mono ?_; rintro e w1 ⟨v, rfl, hr, hb⟩; have HRow := Lib.hid hr; have HB := Lib.hid hb; clear hr hb) | (go_at_call 19; refine (HO.out _ _ HRow.out).mono ?_; rintro e w' ⟨rfl, rfl⟩))
  go_ret2
  exact ⟨rfl, HB.out⟩
theorem row_bytes8 (w : World) (v : Nat) : Row (w.alloc (.cells ((leB 8 v).map enc8).toArray 5)) enc8 (.slice (some ⟨w.heap.size, 0, none⟩) 8 8) (leB 8 v) := by
  have h := Row.of_blk (Blk.new w ((leB 8 v).map enc8).toArray 5) (enc := enc8) (l := leB 8 v)
  rw [leB_length] at h
  exact h
set_option maxHeartbeats 1000000 in
theorem save_bad (P : Value) (fr i : Int) (v : Int) (hi : i < 0 ∨ 32 ≤ i) (w : World) :
    Calls Try.prog 9 #[P, .int .i64 fr, .int .i64 i, .int .u64 v] w fun e w' => e = .returned (.int .i64 1) ∧ w = w' := by
  rcases hi with hi | hi
  · have hd : decide (i < 0) = true := decide_eq_true hi
    go_enter Try.func9, Try.ntmps9
    go_wp2
    go_ret
    exact ⟨rfl, rfl⟩
  · have hd : decide (i < 0) = false := decide_eq_false (by omega)
    have hd2 : decide (32 ≤ i) = true := decide_eq_true hi
    go_enter Try.func9, Try.ntmps9
    go_wp2
    go_ret
    exact ⟨rfl, rfl⟩
set_option maxHeartbeats 1000000 in
theorem save_none (P : Value) (N : Nat) (hN : N ≤ 512) (fr : Int) (i : Nat) (v : Nat) (hi : i < 32) (w : World) (hf : ∀ W, Below w.heap.size w W → Calls Try.prog 15 #[P] W fun e w' => e = .returned (.int .i64 (N : Int)) ∧ W = w') (hfr : fr < 0 ∨ (N : Int) ≤ fr) :
    Calls Try.prog 9 #[P, .int .i64 fr, .int .i64 (i : Int), .int .u64 (v : Int)] w fun e w' => e = .returned (.int .i64 1) ∧ Below w.heap.size w w' := by
  have hb : Below w.heap.size w (w.alloc (.cells ((leB 8 v).map enc8).toArray 5)) := (Below.refl _ _).alloc (Nat.le_refl _) _
  have HW := Lib.hid (write_bad P N hN fr (8 * (i : Int)) (some ⟨w.heap.size, 0, none⟩) 8 8 _ (hf _ hb) (by rw [atOk_iff]; omega))
  have HBy := Lib.hid (bytes_calls v w)
  have HB := Lib.hid hb
  have hi0 : 0 ≤ (i : Int) := by omega
  have hi1 : (i : Int) < 32 := by omega
  clear hf hfr hN hb
  generalize w.alloc (.cells ((leB 8 v).map enc8).toArray 5) = w1 at *
  generalize (i : Int) = ii at *
  generalize (v : Int) = vv at *
  go_enter Try.func9, Try.ntmps9
  go_wp2_with (first | (go_at_call 10; refine HBy.out.mono ?_; rintro e w' ⟨rfl, rfl⟩) | (go_at_call 13; refine HW.out.mono ?_; rintro e w' ⟨rfl, rfl⟩))
  go_ret
  exact ⟨rfl, HB.out⟩
set_option maxHeartbeats 1000000 in
theorem save_calls {p q : Nat} {l : List Nat} {w : World} (h : St w p q l) (fr i v : Nat) (hfr : fr < l.length / 256) (hi : i < 32) :
    Calls Try.prog 9 #[.pointer (some ⟨p, 0, none⟩), .int .i64 (fr : Int), .int .i64 (i : Int), .int .u64 (v : Int)] w fun e w' => e = .returned (.int .i64 0) ∧ Su p q (splice8 l (256 * fr + 8 * i) (leB 8 v)) w w' := by
  have hb : Below w.heap.size w (w.alloc (.cells ((leB 8 v).map enc8).toArray 5)) := (Below.refl _ _).alloc (Nat.le_refl _) _
  have HW := Lib.hid (write_calls (h.below hb) fr (8 * i) _ (leB 8 v) (row_bytes8 w v) (leB_lt 8 v) hfr (by omega) (by rw [leB_length]; omega))
  have HBy := Lib.hid (bytes_calls v w)
  have HB := Lib.hid hb
  have hi0 : 0 ≤ (i : Int) := by omega
  have hi1 : (i : Int) < 32 := by omega
  rw [show ((8 * i : Nat) : Int) = 8 * (i : Int) by omega] at HW
  clear hfr h hi hb
  generalize splice8 l (256 * fr + 8 * i) (leB 8 v) = L2 at *
  generalize w.alloc (.cells ((leB 8 v).map enc8).toArray 5) = w1 at *
  generalize (i : Int) = ii at *
  generalize (v : Int) = vv at *
  go_enter Try.func9, Try.ntmps9
  go_wp2_with (first | (go_at_call 10; refine HBy.out.mono ?_; rintro e w' ⟨rfl, rfl⟩) | (go_at_call 13; refine HW.out.mono ?_; rintro e w2 ⟨rfl, u2⟩; have U2 := Lib.hid u2; clear u2))
  go_ret
  exact ⟨rfl, Su.pre HB.out U2.out⟩
end Go.Proofs.Ytfjpdcalogfhbaa.Walks
