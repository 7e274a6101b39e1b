/- Walks through the functions of the statement, and the statement over them: each contract says what the call answers and that nothing else changes. -/
import Derived.Test.YtimafpigfdpnpaaProg
import Derived.Test.YtimafpigfdpnpaaWalkOwner
import Derived.Test.YtimafpigfdpnpaaBits
import Derived.Test.YtimafpigfdpnpaaHeap
import Derived.Test.YtimafpigfdpnpaaAid
import Derived.Lib.Hide
import Derived.Test.YtimafpigfdpnpaaArr
import Derived.Test.YtimafpigfdpnpaaEql
import Derived.WalkKit
import Derived.WalkSpells
import Derived.WalkLawsBesides
import Derived.Deep.QuietTactic
import Derived.BigQuiet
import Derived.Deep.RegionHeld3
import Derived.Deep.DeepCutAuto
import Derived.Deep.CutBlock
import Derived.Lib.SlBytesConst
import Derived.StillTailTactics
import Derived.Laws.MakeOwn
import Derived.Deep.AppendLies
import Derived.RegionTactic
namespace Go.Proofs.Ytimafpigfdpnpaa.Walks
set_option linter.unusedVariables false
set_option linter.unusedSimpArgs false
open Go.RowKit Go.Proofs.Ytimafpigfdpnpaa.Bits Go.Proofs.Ytimafpigfdpnpaa.Heap Go.Proofs.Ytimafpigfdpnpaa.Aid Go.Proofs.Ytimafpigfdpnpaa.Arr Go.Proofs.Ytimafpigfdpnpaa.Eql

/-- A world in which a row of the call's own has grown. -/
theorem keep_grown {w w' : World} {row : Option Nat} (h : w.grownBy w' row) : Keep (fun i => row = some i) w w' :=
  ⟨h.os, h.tape, h.output, h.size, fun k hk hs => h.block k hk (fun e => hs e.symm)⟩
theorem below_grown {w0 w w' : World} {row : Option Nat} (hb : Below w0.heap.size w0 w) (h : w.grownBy w' row) (hr : ∀ k, row = some k → w0.heap.size ≤ k) : Below w0.heap.size w0 w' :=
  Keep.belowB hb (keep_grown h) hb.size (fun i hi e => by have := hr i e; omega)
theorem sl_form {w : World} {base : Nat} {e : TypeId} {size : Nat} {v : Value} {n : Nat} {xs : List Value} (h : w.ownsRow base e size v n xs) (hn : 0 < n) :
    ∃ g cap sp, v = .slice (some ⟨g, 0, none⟩) n cap ∧ base ≤ g ∧ n ≤ cap ∧ cap ≤ maxLen ∧ Blk w g (xs ++ sp) e := by
  rcases h.2 with ⟨_, h0⟩ | ⟨g, cap, cur, hv, hb, hg, hc, hm, hs, ht⟩
  · omega
  · refine ⟨g, cap, cur.toList.drop (n * size), hv, hb, hc, hm, ?_⟩
    have e1 : xs ++ cur.toList.drop (n * size) = cur.toList := by rw [← ht, List.take_append_drop]
    unfold Blk
    rw [e1]
    simpa using hg
theorem sl_zero {w : World} {base : Nat} {e : TypeId} {size : Nat} {v : Value} {xs : List Value} (h : w.ownsRow base e size v 0 xs) : xs = [] := by
  have := h.1
  simpa using this
/-- A row of the call's own, in a world in which its block stands. -/
theorem sl_keep {w w' : World} {S : Nat → Prop} {base : Nat} {e : TypeId} {size : Nat} {v : Value} {n : Nat} {xs : List Value} (h : w.ownsRow base e size v n xs) (k : Keep S w w') (hs : ∀ g, v.ownBlock = some g → ¬ S g) : w'.ownsRow base e size v n xs := by
  refine ⟨h.1, ?_⟩
  rcases h.2 with h0 | ⟨g, cap, cur, hv, hb, hg, hr⟩
  · exact .inl h0
  · refine .inr ⟨g, cap, cur, hv, hb, ?_, hr⟩
    have hl : g < w.heap.size := by
      rcases Nat.lt_or_ge g w.heap.size with h1 | h1
      · exact h1
      · rw [Array.getElem?_eq_none h1] at hg; cases hg
    rw [k.block g hl (hs g (by rw [hv]; rfl)), hg]
theorem sl_below {w w' : World} {base : Nat} {e : TypeId} {size : Nat} {v : Value} {n : Nat} {xs : List Value} (h : w.ownsRow base e size v n xs) (hb : Below w.heap.size w w') : w'.ownsRow base e size v n xs :=
  sl_keep (S := fun _ => False) h (Keep.of_below hb) (fun _ _ h => h)
theorem news_blk {w : World} {b : Nat} {cs sp : List Value} {t : TypeId} (h : Blk w b (cs ++ sp) t) : ∀ j u, cs[j]? = some u → w.cell? ((⟨b, 0, none⟩ : Addr).add j) = some u := fun j u hu => by
  rw [add_blk]
  refine h.cellAt ?_
  have hj : j < cs.length := by
    rcases Nat.lt_or_ge j cs.length with h1 | h1
    · exact h1
    · rw [List.getElem?_eq_none h1] at hu; cases hu
  rw [List.getElem?_append_left hj, hu]
/-- A book of the call's own. -/
structure Ob (w : World) (p q : Nat) (l : List Ow) (w' : World) : Prop where
  bel : Below w.heap.size w w'
  n : w.heap.size ≤ q
  k : Bk w' p q l
theorem Ob.bu {w w1 w2 : World} {p q : Nat} {l l' : List Ow} (h : Ob w p q l w1) (u : Bu p q l' w1 w2) : Ob w p q l' w2 := ⟨Keep.belowB h.bel u.k h.bel.size (fun i hi e => by have := h.n; omega), h.n, u.b⟩
theorem Ob.step {w w1 w2 : World} {p q : Nat} {l : List Ow} (h : Ob w p q l w1) (hb : Below w1.heap.size w1 w2) : Ob w p q l w2 := ⟨h.bel.trans (hb.mono h.bel.size), h.n, h.k.below hb⟩
theorem Ob.new {w w1 w2 : World} {p : Nat} {l : List Ow} (hb : Below w.heap.size w w1) (k : Bk w2 p w1.heap.size l) (hb2 : Below w1.heap.size w1 w2) : Ob w p w1.heap.size l w2 := ⟨hb.trans (hb2.mono hb.size), hb.size, k⟩
theorem at_set {l : List Ow} {f : Nat} (hf : f < l.length) (y : Ow) : (l.set f y)[f]? = some y := by simp [hf]
theorem free_at {c f : Nat} (hf : f < c) : (List.replicate c freeOw)[f]? = some freeOw := by simp [hf]
set_option maxHeartbeats 2000000 in
theorem awake_calls (w : World) : Calls Try.prog 7 #[] w fun e w' => e = .returned (.bool true) ∧ Below w.heap.size w w' := by
  have HD := Lib.hid (fun W p q (h : Bk W p q (List.replicate 5 freeOw)) => donate_calls h 3 (free_at (c := 5) (f := 3) (by omega)) 0 7)
  have e1 : donE freeOw 0 7 = 0 := by decide
  have e2 : donL (List.replicate 5 freeOw) 3 freeOw 0 7 = (List.replicate 5 freeOw).set 3 ⟨3, 0, 7, 0⟩ := by decide
  rw [e1, e2] at HD
  have HS := Lib.hid (fun W p q (h : Bk W p q ((List.replicate 5 freeOw).set 3 ⟨3, 0, 7, 0⟩)) => share_calls h 3 (at_set (by simp) _) 0 (by decide) (by simp) (by simp))
  rw [List.set_set] at HS
  have HR := Lib.hid (fun W p q (h : Bk W p q ((List.replicate 5 freeOw).set 3 ⟨3, 0, 7, 0 + 1⟩)) => reclaim_used h 3 (at_set (by simp) _) 0 (by decide) (by simp))
  have HC := Lib.hid (fun W p q (h : Bk W p q ((List.replicate 5 freeOw).set 3 ⟨3, 0, 7, 0 + 1⟩)) => count_calls h 3 0)
  have e3 : cntW 3 0 ((List.replicate 5 freeOw).set 3 ⟨3, 0, 7, 0 + 1⟩) = 1 := by decide
  rw [e3] at HC
  clear e1 e2 e3
  generalize (List.replicate 5 freeOw).set 3 ⟨3, 0, 7, 0 + 1⟩ = l2 at *
  generalize (List.replicate 5 freeOw).set 3 ⟨3, 0, 7, 0⟩ = l1 at *
  have HN := Lib.hid (new_calls 5 w)
  rw [show (min (max (5 : Int) 0) 512).toNat = 5 from rfl] at HN
  generalize List.replicate 5 freeOw = l0 at *
  go_enter Try.func7, Try.ntmps7
  go_wp2_with (first | (go_at_call 8; refine HN.out.mono ?_; rintro e w1 ⟨rfl, k1, b1⟩; have B1 := Lib.hid (Ob.new (Below.refl _ _) k1 b1); clear k1 b1) | (go_at_call 9; refine (HD.out _ _ _ B1.out.k).mono ?_; rintro e w2 ⟨rfl, u2⟩; have B2 := Lib.hid (B1.out.bu u2); clear u2) | (go_at_call 10; refine (HS.out _ _ _ B2.out.k).mono ?_; rintro e w3 ⟨rfl, u3⟩; have B3 := Lib.hid (B2.out.bu u3); clear u3) | (go_at_call 11; refine (HR.out _ _ _ B3.out.k).mono ?_; rintro e w4 ⟨rfl, rfl⟩) | (go_at_call 13; refine (HC.out _ _ _ B3.out.k).mono ?_; rintro e w5 ⟨rfl, u5⟩; have B5 := Lib.hid (B3.out.step u5); clear u5))
  go_ret
  exact ⟨rfl, B5.out.bel⟩
theorem rows_one (l : List Ow) : ∀ v ∈ rows l, v.oneCell' = true := by
  induction l with
  | nil => intro v hv; cases hv
  | cons x r ih =>
    intro v hv
    rw [rows, flat, List.mem_append] at hv
    rcases hv with h | h
    · simp only [Ow.cells, List.mem_cons, List.not_mem_nil, or_false] at h
      rcases h with rfl | rfl | rfl | rfl <;> rfl
    · exact ih v h
def TwinP (w : World) (l : List Ow) (e : Ending) (w' : World) : Prop := ∃ p' q', e = .returned (.pointer (some ⟨p', 0, none⟩)) ∧ w.heap.size ≤ q' ∧ w.heap.size ≤ p' ∧ Bk w' p' q' l ∧ Below w.heap.size w w'
set_option maxHeartbeats 1000000 in
theorem twin_calls {p q : Nat} {l : List Ow} {w : World} (h : Bk w p q l) (hl : 0 < l.length) : Calls Try.prog 14 #[.pointer (some ⟨p, 0, none⟩)] w (TwinP w l) := by
  obtain ⟨cap, hcap, c⟩ := h.c
  obtain ⟨sp, hq⟩ := h.hq
  have HQ := Lib.hid hq
  have HL := Lib.hid hl
  have HE := Lib.hid h.le
  obtain ⟨i, hi, hz, hs, hb⟩ := row_info
  have HI := Lib.hid hi
  have HZ := Lib.hid hz
  have HS := Lib.hid hs
  have HB := Lib.hid hb
  clear hq hl h hi hz hs hb
  go_enter Try.func14, Try.ntmps14
  go_wp2_with (at_builtin; refine wpList_append_lies _ (by rfl) _ _ _ (by rfl) w.heap.size 35 i _ 4 32 Try.underlying31 HI.out HZ.out HS.out HB.out (by rfl) (by omega) (.slice none 0 0) 0 [] (by rfl) (World.ownsRow_nil _ _ _ _) ⟨q, 0, none⟩ l.length cap (rows l) (by rfl) (by rw [rows, flat_length ow4]) (news_blk HQ.out) (rows_one l) HL.out (by have := HE.out; unfold maxLen; omega) (by have := HE.out; omega) (Nat.le_refl _) _ rfl ?_; intro g cap2 w1 hown hgrow hat hlt)
  obtain ⟨g', cap', sp', hv, hbase, hcap', _, hblk⟩ := sl_form hown (by have := HL.out; omega)
  have hg : g = g' := by injection hv with h1 _ _; injection h1 with h1; injection h1
  subst hg
  have hc : cap2 = cap' := by injection hv
  subst hc
  rw [List.nil_append] at hblk
  have b2 := Blk.new w1 #[.slice (some ⟨g, 0, none⟩) l.length cap2] 33
  have bel : Below w.heap.size w w1 := below_grown (Below.refl _ _) hgrow (fun k hk => by cases hk)
  go_ret
  exact ⟨w1.heap.size, g, rfl, hbase, hgrow.size, ⟨⟨cap2, by omega, b2⟩, ⟨sp', hblk.alloc _⟩, by omega, HE.out⟩, bel.alloc hgrow.size _⟩
def TwinE (w : World) (e : Ending) (w' : World) : Prop := ∃ p', e = .returned (.pointer (some ⟨p', 0, none⟩)) ∧ w.heap.size ≤ p' ∧ w'.cell? ⟨p', 0, none⟩ = some (.slice none 0 0) ∧ Below w.heap.size w w'
set_option maxHeartbeats 1000000 in
theorem twin_empty {p q : Nat} {w : World} (h : Bk w p q []) : Calls Try.prog 14 #[.pointer (some ⟨p, 0, none⟩)] w (TwinE w) := by
  obtain ⟨cap, hcap, c⟩ := h.c
  obtain ⟨i, hi, hz, hs, hb⟩ := row_info
  have HI := Lib.hid hi
  have HZ := Lib.hid hz
  have HS := Lib.hid hs
  have HB := Lib.hid hb
  rw [List.length_nil] at c
  clear h hi hz hs hb
  go_enter Try.func14, Try.ntmps14
  go_wp2_with (at_builtin; refine wpList_append_own _ (by rfl) _ _ _ (by rfl) w.heap.size 35 i _ 4 32 Try.underlying31 HI.out HZ.out HS.out HB.out (by rfl) (by omega) (.slice none 0 0) 0 [] (by rfl) (World.ownsRow_nil _ _ _ _) ⟨q, 0, none⟩ 0 cap [] (by rfl) (by rfl) (fun j u hu => by simp at hu) (fun u hu => by simp at hu) (by unfold maxLen; omega) (by omega) (Nat.le_refl _) ?_; intro v1 w1 hown hgrow hiff; obtain rfl := hiff.2 ⟨rfl, rfl⟩)
  have b2 := Blk.new w1 #[.slice none 0 0] 33
  have bel : Below w.heap.size w w1 := below_grown (Below.refl _ _) hgrow (fun k hk => by cases hk)
  go_ret
  exact ⟨w1.heap.size, rfl, hgrow.size, b2.cellAt rfl, bel.alloc hgrow.size _⟩
set_option maxHeartbeats 1000000 in
theorem row_empty {p : Nat} {w : World} (c : w.cell? ⟨p, 0, none⟩ = some (.slice none 0 0)) (f : Nat) : Calls Try.prog 19 #[.pointer (some ⟨p, 0, none⟩), .int .i64 (f : Int)] w fun e w' => e = .returned (.tuple #[.pointer none, .int .i64 1]) ∧ w = w' := by
  have hd : decide ((f : Int) < 0) = false := decide_eq_false (by omega)
  have hd2 : decide ((0 : Int) ≤ (f : Int)) = true := decide_eq_true (by omega)
  go_enter Try.func19, Try.ntmps19
  go_wp2
  go_ret2
  exact ⟨rfl, rfl⟩
set_option maxHeartbeats 1000000 in
theorem get_ok {p q : Nat} {l : List Ow} {w : World} (h : Bk w p q l) (f : Nat) {x : Ow} (hx : l[f]? = some x) :
    Calls Try.prog 15 #[.pointer (some ⟨p, 0, none⟩), .int .i64 (f : Int)] w fun e w' => e = .returned (.tuple #[.agg #[.int .u8 x.k, .int .i64 x.vm, .int .i64 x.pg, .int .i64 x.sh], .int .i64 0]) ∧ Below w.heap.size w w' := by
  have HR := Lib.hid (fun W (h : Bk W p q l) => row_ok h f (some_lt hx))
  have hW : Bk (w.alloc (.cells #[.int .u8 0, .int .i64 0, .int .i64 0, .int .i64 0] (35 : Nat))) p q l := h.below ((Below.refl _ _).alloc (Nat.le_refl _) _)
  have HW := Lib.hid hW
  have c0 := hW.c0 hx
  have c1 := hW.c1 hx
  have c2 := hW.c2 hx
  have c3 := hW.c3 hx
  clear h hx hW
  go_enter Try.func15, Try.ntmps15
  go_wp2_with (go_at_call 19; refine (HR.out _ HW.out).mono ?_; rintro e w' ⟨rfl, rfl⟩)
  exact bodyPost_ret (v := .tuple #[.agg #[.int .u8 x.k, .int .i64 x.vm, .int .i64 x.pg, .int .i64 x.sh], .int .i64 0]) (by simp [results, Try.results15, go_sem]) rfl ⟨rfl, by first | exact (Below.refl _ _).alloc (Nat.le_refl _) _ | (repeat (first | refine Below.setCell ?_ (Nat.le_refl _) _ | exact (Below.refl _ _).alloc (Nat.le_refl _) _))⟩
theorem Bk.plt {w : World} {p q : Nat} {l : List Ow} (h : Bk w p q l) : p < w.heap.size := by
  obtain ⟨cap, _, h2⟩ := h.hp
  exact h2.lt
theorem Bk.qlt {w : World} {p q : Nat} {l : List Ow} (h : Bk w p q l) : q < w.heap.size := by
  obtain ⟨sp, h2⟩ := h.hq
  exact h2.lt
theorem Bk.other {w w' : World} {p q p2 q2 : Nat} {l l2 : List Ow} (h : Bk w p q l) (u : Bu p2 q2 l2 w w') (hp : p ≠ q2) (hq : q ≠ q2) : Bk w' p q l := by
  obtain ⟨cap, h1, h2⟩ := h.hp
  obtain ⟨sp, h3⟩ := h.hq
  exact ⟨⟨cap, h1, h2.keep u.k hp⟩, ⟨sp, h3.keep u.k hq⟩, h.ne, h.le⟩
theorem Ob.other {w w1 w2 : World} {p q p2 q2 : Nat} {l l2 : List Ow} (h : Ob w p q l w1) (u : Bu p2 q2 l2 w1 w2) (hn : w.heap.size ≤ q2) (hp : p ≠ q2) (hq : q ≠ q2) : Ob w p q l w2 :=
  ⟨Keep.belowB h.bel u.k h.bel.size (fun i hi e => by omega), h.n, h.k.other u hp hq⟩
theorem cnt_one {c f : Nat} (hf : f < c) : cntW 3 1 ((List.replicate c freeOw).set f ⟨3, 1, 2, 0⟩) = 1 := by
  have h0 : ∀ m, cntW 3 1 (List.replicate m freeOw) = 0 := by
    intro m
    unfold cntW
    rw [List.filter_eq_nil_iff.2]
    · rfl
    · intro x hx
      rw [List.mem_replicate] at hx
      rw [hx.2]; decide
  have ha : ∀ a b, cntW 3 1 (a ++ b) = cntW 3 1 a + cntW 3 1 b := by
    intro a b
    unfold cntW
    rw [List.filter_append, List.length_append]
  rw [List.set_eq_take_append_cons_drop, if_pos (by simpa using hf), List.take_replicate, List.drop_replicate, ha, h0]
  have e : cntW 3 1 ((⟨3, 1, 2, 0⟩ : Ow) :: List.replicate (c - (f + 1)) freeOw) = cntW 3 1 [(⟨3, 1, 2, 0⟩ : Ow)] + cntW 3 1 (List.replicate (c - (f + 1)) freeOw) := ha [_] _
  rw [e, h0]
  decide
theorem cnt_free (c : Nat) : cntW 0 0 (List.replicate c freeOw) = c := by
  unfold cntW
  rw [List.filter_eq_self.2]
  · simp
  · intro x hx
    rw [List.mem_replicate] at hx
    rw [hx.2]; rfl
set_option maxHeartbeats 1000000 in
theorem get_bad {p q : Nat} {l : List Ow} {w : World} (h : Bk w p q l) (f : Nat) (hx : l.length ≤ f) :
    Calls Try.prog 15 #[.pointer (some ⟨p, 0, none⟩), .int .i64 (f : Int)] w fun e w' => e = .returned (.tuple #[.agg #[.int .u8 0, .int .i64 0, .int .i64 0, .int .i64 0], .int .i64 1]) ∧ Below w.heap.size w w' := by
  have HR := Lib.hid (fun W (h : Bk W p q l) => row_bad h (f : Int) (.inr (by omega)))
  have HW : Hid (Bk (w.alloc (.cells #[.int .u8 0, .int .i64 0, .int .i64 0, .int .i64 0] (35 : Nat))) p q l) := h.below ((Below.refl _ _).alloc (Nat.le_refl _) _)
  clear h hx
  go_enter Try.func15, Try.ntmps15
  go_wp2_with (go_at_call 19; refine (HR.out _ HW.out).mono ?_; rintro e w' ⟨rfl, rfl⟩)
  exact bodyPost_ret (v := .tuple #[.agg #[.int .u8 0, .int .i64 0, .int .i64 0, .int .i64 0], .int .i64 1]) (by simp [results, Try.results15, go_sem]) rfl ⟨rfl, by first | exact (Below.refl _ _).alloc (Nat.le_refl _) _ | (repeat (first | refine Below.setCell ?_ (Nat.le_refl _) _ | exact (Below.refl _ _).alloc (Nat.le_refl _) _))⟩
theorem zero_eql (w : World) : (binOp .eql 35 (.agg #[.int .u8 0, .int .i64 0, .int .i64 0, .int .i64 0]) (.agg #[.int .u8 0, .int .i64 0, .int .i64 0, .int .i64 0])).run Try.prog w = .ok (.bool true) w := by kernel_rfl
set_option maxHeartbeats 4000000 in
theorem twinsA0 (n : Int) (f : Nat) (hn : n < 0) (hf256 : f < 256) (w : World) :
    Calls Try.prog 4 #[.int .i64 n, .int .u8 (f : Int)] w fun e w' => e = .returned (.bool true) ∧ Below w.heap.size w w' := by
  have hf : 0 ≤ f := by omega
  have HN := Lib.hid (new_calls n)
  rw [show (min (max (n : Int) 0) 512).toNat = 0 by omega] at HN
  have HF := Lib.hid hf
  have EQ := zero_eql
  have hf0 : 0 ≤ (f : Int) := by omega
  have hf1 : (f : Int) ≤ 255 := by omega
  have HL0 := Lib.hid (show (List.replicate 0 freeOw).length = 0 from List.length_replicate)
  have TW := Lib.hid (fun W p q (h : Bk W p q (List.replicate 0 freeOw)) => twin_empty h)
  clear hf
  generalize List.replicate 0 freeOw = L0 at *
  go_enter Try.func4, Try.ntmps4
  go_upto_region 6 with (first | (go_at_call 7; refine (awake_calls _).mono ?_; rintro e wa ⟨rfl, ua⟩; have BA := Lib.hid ua; clear ua) | (go_at_call 8; refine (HN.out _).mono ?_; rintro e w1 ⟨rfl, k1, b1⟩; have B1 := Lib.hid (Ob.new BA.out k1 b1); clear k1 b1) | (go_at_call 14; refine (TW.out _ _ _ B1.out.k).mono ?_; rintro e w2 ⟨p2, rfl, hp2, cc2, u2⟩; have B2 := Lib.hid (B1.out.step u2); clear u2))
  obtain ⟨cap, _, cc⟩ := B2.out.k.c
  rw [HL0.out] at cc
  generalize wa.heap.size + 1 = P at *
  generalize wa.heap.size = Q at *
  have HDF := Lib.hid (donate_fail (.pointer (some ⟨p2, 0, none⟩)) (f : Int) 1 2 _ (row_empty cc2 f))
  have HGF := Lib.hid (get_bad B2.out.k f (by rw [HL0.out]; exact HF.out))
  have hlt : decide (0 ≤ (f : Int)) = true := decide_eq_true (by have := HF.out; omega)
  go_wp2_with (first | (go_at_call 9; refine HDF.out.mono ?_; rintro e w3 ⟨rfl, rfl⟩) | (go_at_call 15; refine HGF.out.mono ?_; rintro e w4 ⟨rfl, u4⟩; have B4 := Lib.hid (B2.out.step u4); clear u4))
  go_ret
  exact ⟨rfl, B4.out.bel.alloc B4.out.bel.size _⟩
set_option maxHeartbeats 4000000 in
theorem twinsA1 (f : Nat) (hf256 : f < 256) (w : World) :
    Calls Try.prog 4 #[.int .i64 0, .int .u8 (f : Int)] w fun e w' => e = .returned (.bool true) ∧ Below w.heap.size w w' := by
  have hf : 0 ≤ f := by omega
  have HN := Lib.hid (new_calls 0)
  rw [show (min (max (0 : Int) 0) 512).toNat = 0 by omega] at HN
  have HF := Lib.hid hf
  have EQ := zero_eql
  have hf0 : 0 ≤ (f : Int) := by omega
  have hf1 : (f : Int) ≤ 255 := by omega
  have HL0 := Lib.hid (show (List.replicate 0 freeOw).length = 0 from List.length_replicate)
  have TW := Lib.hid (fun W p q (h : Bk W p q (List.replicate 0 freeOw)) => twin_empty h)
  clear hf
  generalize List.replicate 0 freeOw = L0 at *
  go_enter Try.func4, Try.ntmps4
  go_upto_region 6 with (first | (go_at_call 7; refine (awake_calls _).mono ?_; rintro e wa ⟨rfl, ua⟩; have BA := Lib.hid ua; clear ua) | (go_at_call 8; refine (HN.out _).mono ?_; rintro e w1 ⟨rfl, k1, b1⟩; have B1 := Lib.hid (Ob.new BA.out k1 b1); clear k1 b1) | (go_at_call 14; refine (TW.out _ _ _ B1.out.k).mono ?_; rintro e w2 ⟨p2, rfl, hp2, cc2, u2⟩; have B2 := Lib.hid (B1.out.step u2); clear u2))
  obtain ⟨cap, _, cc⟩ := B2.out.k.c
  rw [HL0.out] at cc
  generalize wa.heap.size + 1 = P at *
  generalize wa.heap.size = Q at *
  have HDF := Lib.hid (donate_fail (.pointer (some ⟨p2, 0, none⟩)) (f : Int) 1 2 _ (row_empty cc2 f))
  have HGF := Lib.hid (get_bad B2.out.k f (by rw [HL0.out]; exact HF.out))
  have hlt : decide (0 ≤ (f : Int)) = true := decide_eq_true (by have := HF.out; omega)
  go_wp2_with (first | (go_at_call 9; refine HDF.out.mono ?_; rintro e w3 ⟨rfl, rfl⟩) | (go_at_call 15; refine HGF.out.mono ?_; rintro e w4 ⟨rfl, u4⟩; have B4 := Lib.hid (B2.out.step u4); clear u4))
  go_ret
  exact ⟨rfl, B4.out.bel.alloc B4.out.bel.size _⟩
set_option maxHeartbeats 4000000 in
theorem twinsB (k f : Nat) (hp : 0 < k) (hk : k ≤ 512) (hf : k ≤ f) (hf256 : f < 256) (w : World) :
    Calls Try.prog 4 #[.int .i64 (k : Int), .int .u8 (f : Int)] w fun e w' => e = .returned (.bool true) ∧ Below w.heap.size w w' := by
  have HN := Lib.hid (new_calls (k : Int))
  rw [show (min (max ((k : Int) : Int) 0) 512).toNat = k by omega] at HN
  have HP := Lib.hid hp
  have HF := Lib.hid hf
  have EQ := zero_eql
  have hf0 : 0 ≤ (f : Int) := by omega
  have hf1 : (f : Int) ≤ 255 := by omega
  have HL0 := Lib.hid (show (List.replicate k freeOw).length = k from List.length_replicate)
  have TW := Lib.hid (fun W p q (h : Bk W p q (List.replicate k freeOw)) => twin_calls h (by rw [List.length_replicate]; exact HP.out))
  clear hf hp
  generalize List.replicate k freeOw = L0 at *
  go_enter Try.func4, Try.ntmps4
  go_upto_region 6 with (first | (go_at_call 7; refine (awake_calls _).mono ?_; rintro e wa ⟨rfl, ua⟩; have BA := Lib.hid ua; clear ua) | (go_at_call 8; refine (HN.out _).mono ?_; rintro e w1 ⟨rfl, k1, b1⟩; have B1 := Lib.hid (Ob.new BA.out k1 b1); clear k1 b1) | (go_at_call 14; refine (TW.out _ _ _ B1.out.k).mono ?_; rintro e w2 ⟨p2, q2, rfl, hq2, hp2, k2, u2⟩; have B2 := Lib.hid (B1.out.step u2); have K2 := Lib.hid k2; clear u2 k2))
  obtain ⟨cap, _, cc⟩ := B2.out.k.c
  obtain ⟨cap2, _, cc2⟩ := K2.out.c
  rw [HL0.out] at cc cc2
  have NP := Lib.hid (show wa.heap.size + 1 ≠ q2 by have := B1.out.k.plt; omega)
  have NQ := Lib.hid (show wa.heap.size ≠ q2 by have := B1.out.k.qlt; omega)
  have NB := Lib.hid (show w.heap.size ≤ q2 by have := B1.out.bel.size; omega)
  clear hq2 hp2
  generalize wa.heap.size + 1 = P at *
  generalize wa.heap.size = Q at *
  have HDF := Lib.hid (donate_fail (.pointer (some ⟨p2, 0, none⟩)) (f : Int) 1 2 _ (row_bad K2.out (f : Int) (.inr (by rw [HL0.out]; have := HF.out; omega))))
  have HGF := Lib.hid (get_bad B2.out.k f (by rw [HL0.out]; exact HF.out))
  have hlt : decide ((k : Int) ≤ (f : Int)) = true := decide_eq_true (by have := HF.out; omega)
  go_wp2_with (first | (go_at_call 9; refine HDF.out.mono ?_; rintro e w3 ⟨rfl, rfl⟩) | (go_at_call 15; refine HGF.out.mono ?_; rintro e w4 ⟨rfl, u4⟩; have B4 := Lib.hid (B2.out.step u4); clear u4))
  go_ret
  exact ⟨rfl, B4.out.bel.alloc B4.out.bel.size _⟩
set_option maxHeartbeats 4000000 in
theorem twinsC (k f : Nat) (hp : 0 < k) (hk : k ≤ 512) (hf : f < k) (hf256 : f < 256) (w : World) :
    Calls Try.prog 4 #[.int .i64 (k : Int), .int .u8 (f : Int)] w fun e w' => e = .returned (.bool true) ∧ Below w.heap.size w w' := by
  have HN := Lib.hid (new_calls (k : Int))
  rw [show (min (max ((k : Int) : Int) 0) 512).toNat = k by omega] at HN
  have HP := Lib.hid hp
  have HF := Lib.hid hf
  have EQ := zero_eql
  have hf0 : 0 ≤ (f : Int) := by omega
  have hf1 : (f : Int) ≤ 255 := by omega
  have HL0 := Lib.hid (show (List.replicate k freeOw).length = k from List.length_replicate)
  have TW := Lib.hid (fun W p q (h : Bk W p q (List.replicate k freeOw)) => twin_calls h (by rw [List.length_replicate]; exact HP.out))
  have HD := Lib.hid (fun W p q (h : Bk W p q (List.replicate k freeOw)) => donate_calls h f (free_at (c := k) HF.out) 1 2)
  rw [show donE freeOw 1 2 = 0 by decide, show donL (List.replicate k freeOw) f freeOw 1 2 = (List.replicate k freeOw).set f ⟨3, 1, 2, 0⟩ by unfold donL; rw [if_pos (by decide)]] at HD
  have HG := Lib.hid (fun W p q (h : Bk W p q (List.replicate k freeOw)) => get_ok h f (free_at (c := k) HF.out))
  have HC1 := Lib.hid (fun W p q (h : Bk W p q ((List.replicate k freeOw).set f ⟨3, 1, 2, 0⟩)) => count_calls h 3 1)
  rw [cnt_one HF.out] at HC1
  have HC0 := Lib.hid (fun W p q (h : Bk W p q (List.replicate k freeOw)) => count_calls h 0 0)
  rw [cnt_free] at HC0
  rw [show freeOw.k = 0 from rfl, show freeOw.vm = 0 from rfl, show freeOw.pg = 0 from rfl, show freeOw.sh = 0 from rfl] at HG
  generalize (List.replicate k freeOw).set f ⟨3, 1, 2, 0⟩ = L1 at *
  clear hf hp
  generalize List.replicate k freeOw = L0 at *
  go_enter Try.func4, Try.ntmps4
  go_upto_region 6 with (first | (go_at_call 7; refine (awake_calls _).mono ?_; rintro e wa ⟨rfl, ua⟩; have BA := Lib.hid ua; clear ua) | (go_at_call 8; refine (HN.out _).mono ?_; rintro e w1 ⟨rfl, k1, b1⟩; have B1 := Lib.hid (Ob.new BA.out k1 b1); clear k1 b1) | (go_at_call 14; refine (TW.out _ _ _ B1.out.k).mono ?_; rintro e w2 ⟨p2, q2, rfl, hq2, hp2, k2, u2⟩; have B2 := Lib.hid (B1.out.step u2); have K2 := Lib.hid k2; clear u2 k2))
  obtain ⟨cap, _, cc⟩ := B2.out.k.c
  obtain ⟨cap2, _, cc2⟩ := K2.out.c
  rw [HL0.out] at cc cc2
  have NP := Lib.hid (show wa.heap.size + 1 ≠ q2 by have := B1.out.k.plt; omega)
  have NQ := Lib.hid (show wa.heap.size ≠ q2 by have := B1.out.k.qlt; omega)
  have NB := Lib.hid (show w.heap.size ≤ q2 by have := B1.out.bel.size; omega)
  clear hq2 hp2
  generalize wa.heap.size + 1 = P at *
  generalize wa.heap.size = Q at *
  go_upto_region 9 with (go_at_call 9; refine (HD.out _ _ _ K2.out).mono ?_; rintro e w3 ⟨rfl, u3⟩; have B3 := Lib.hid (B2.out.other u3 NB.out NP.out NQ.out); have K3 := Lib.hid u3.b; clear u3)
  clear cc cc2
  go_upto_region 10 with (go_at_call 15; refine (HG.out _ _ _ B3.out.k).mono ?_; rintro e w4 ⟨rfl, u4⟩; have B4 := Lib.hid (B3.out.step u4); have K4 := Lib.hid (K3.out.below u4); clear u4)
  have B5 : Hid (∀ A : Array Value, Ob w P Q L0 (w4.alloc (.cells A (35 : Nat)))) := fun A => B4.out.step ((Below.refl _ _).alloc (Nat.le_refl _) _)
  have K5 : Hid (∀ A : Array Value, Bk (w4.alloc (.cells A (35 : Nat))) p2 q2 L1) := fun A => K4.out.below ((Below.refl _ _).alloc (Nat.le_refl _) _)
  have hlt : decide ((k : Int) ≤ (f : Int)) = false := decide_eq_false (by have := HF.out; omega)
  have hlt2 : decide (k ≤ f) = false := decide_eq_false (by have := HF.out; omega)
  go_wp2_with (first | (go_at_call 13; (with_reducible refine (HC1.out _ _ _ (K5.out _)).mono ?_); rintro e w6 ⟨rfl, u6⟩; have B6 := Lib.hid ((B5.out _).step u6); clear u6) | (go_at_call 13; (with_reducible refine (HC0.out _ _ _ B6.out.k).mono ?_); rintro e w7 ⟨rfl, u7⟩; have B7 := Lib.hid (B6.out.step u7); clear u7))
  go_ret
  exact ⟨rfl, B7.out.bel⟩
set_option maxHeartbeats 4000000 in
theorem twinsD (n : Int) (f : Nat) (hn : 512 < n) (hf256 : f < 256) (w : World) :
    Calls Try.prog 4 #[.int .i64 n, .int .u8 (f : Int)] w fun e w' => e = .returned (.bool true) ∧ Below w.heap.size w w' := by
  have hf : f < 512 := by omega
  have hp : 0 < 512 := by omega
  have HN := Lib.hid (new_calls n)
  rw [show (min (max (n : Int) 0) 512).toNat = 512 by omega] at HN
  have HP := Lib.hid hp
  have HF := Lib.hid hf
  have EQ := zero_eql
  have hf0 : 0 ≤ (f : Int) := by omega
  have hf1 : (f : Int) ≤ 255 := by omega
  have HL0 := Lib.hid (show (List.replicate 512 freeOw).length = 512 from List.length_replicate)
  have TW := Lib.hid (fun W p q (h : Bk W p q (List.replicate 512 freeOw)) => twin_calls h (by rw [List.length_replicate]; exact HP.out))
  have HD := Lib.hid (fun W p q (h : Bk W p q (List.replicate 512 freeOw)) => donate_calls h f (free_at (c := 512) HF.out) 1 2)
  rw [show donE freeOw 1 2 = 0 by decide, show donL (List.replicate 512 freeOw) f freeOw 1 2 = (List.replicate 512 freeOw).set f ⟨3, 1, 2, 0⟩ by unfold donL; rw [if_pos (by decide)]] at HD
  have HG := Lib.hid (fun W p q (h : Bk W p q (List.replicate 512 freeOw)) => get_ok h f (free_at (c := 512) HF.out))
  have HC1 := Lib.hid (fun W p q (h : Bk W p q ((List.replicate 512 freeOw).set f ⟨3, 1, 2, 0⟩)) => count_calls h 3 1)
  rw [cnt_one HF.out] at HC1
  have HC0 := Lib.hid (fun W p q (h : Bk W p q (List.replicate 512 freeOw)) => count_calls h 0 0)
  rw [cnt_free] at HC0
  rw [show freeOw.k = 0 from rfl, show freeOw.vm = 0 from rfl, show freeOw.pg = 0 from rfl, show freeOw.sh = 0 from rfl] at HG
  generalize (List.replicate 512 freeOw).set f ⟨3, 1, 2, 0⟩ = L1 at *
  clear hf hp
  generalize List.replicate 512 freeOw = L0 at *
  go_enter Try.func4, Try.ntmps4
  go_upto_region 6 with (first | (go_at_call 7; refine (awake_calls _).mono ?_; rintro e wa ⟨rfl, ua⟩; have BA := Lib.hid ua; clear ua) | (go_at_call 8; refine (HN.out _).mono ?_; rintro e w1 ⟨rfl, k1, b1⟩; have B1 := Lib.hid (Ob.new BA.out k1 b1); clear k1 b1) | (go_at_call 14; refine (TW.out _ _ _ B1.out.k).mono ?_; rintro e w2 ⟨p2, q2, rfl, hq2, hp2, k2, u2⟩; have B2 := Lib.hid (B1.out.step u2); have K2 := Lib.hid k2; clear u2 k2))
  obtain ⟨cap, _, cc⟩ := B2.out.k.c
  obtain ⟨cap2, _, cc2⟩ := K2.out.c
  rw [HL0.out] at cc cc2
  have NP := Lib.hid (show wa.heap.size + 1 ≠ q2 by have := B1.out.k.plt; omega)
  have NQ := Lib.hid (show wa.heap.size ≠ q2 by have := B1.out.k.qlt; omega)
  have NB := Lib.hid (show w.heap.size ≤ q2 by have := B1.out.bel.size; omega)
  clear hq2 hp2
  generalize wa.heap.size + 1 = P at *
  generalize wa.heap.size = Q at *
  go_upto_region 9 with (go_at_call 9; refine (HD.out _ _ _ K2.out).mono ?_; rintro e w3 ⟨rfl, u3⟩; have B3 := Lib.hid (B2.out.other u3 NB.out NP.out NQ.out); have K3 := Lib.hid u3.b; clear u3)
  clear cc cc2
  go_upto_region 10 with (go_at_call 15; refine (HG.out _ _ _ B3.out.k).mono ?_; rintro e w4 ⟨rfl, u4⟩; have B4 := Lib.hid (B3.out.step u4); have K4 := Lib.hid (K3.out.below u4); clear u4)
  have B5 : Hid (∀ A : Array Value, Ob w P Q L0 (w4.alloc (.cells A (35 : Nat)))) := fun A => B4.out.step ((Below.refl _ _).alloc (Nat.le_refl _) _)
  have K5 : Hid (∀ A : Array Value, Bk (w4.alloc (.cells A (35 : Nat))) p2 q2 L1) := fun A => K4.out.below ((Below.refl _ _).alloc (Nat.le_refl _) _)
  have hlt : decide (512 ≤ (f : Int)) = false := decide_eq_false (by have := HF.out; omega)
  have hlt2 : decide (512 ≤ f) = false := decide_eq_false (by have := HF.out; omega)
  go_wp2_with (first | (go_at_call 13; (with_reducible refine (HC1.out _ _ _ (K5.out _)).mono ?_); rintro e w6 ⟨rfl, u6⟩; have B6 := Lib.hid ((B5.out _).step u6); clear u6) | (go_at_call 13; (with_reducible refine (HC0.out _ _ _ B6.out.k).mono ?_); rintro e w7 ⟨rfl, u7⟩; have B7 := Lib.hid (B6.out.step u7); clear u7))
  go_ret
  exact ⟨rfl, B7.out.bel⟩
theorem ownerTwins_walk (n : Int) (a1 : Int) (w : World) (w0 : (Lit.int .i64 n).wf = true) (w1 : (Lit.int .u8 a1).wf = true) :
    Calls Try.prog 4 #[.int .i64 n, .int .u8 a1] w fun e w' => e = .returned (.bool true) ∧ Below w.heap.size w w' := by
  obtain ⟨f, rfl, hf⟩ := wf_u8 w1
  rcases Int.lt_or_le n 0 with h0 | h0
  · exact twinsA0 n f h0 hf w
  · rcases Int.lt_or_le 512 n with h1 | h1
    · exact twinsD n f h1 hf w
    · obtain ⟨k, rfl⟩ := Int.eq_ofNat_of_zero_le h0
      rcases Nat.eq_zero_or_pos k with h2 | h2
      · subst h2; exact twinsA1 f hf w
      · rcases Nat.lt_or_ge f k with h3 | h3
        · exact twinsC k f h2 (by omega) h3 hf w
        · exact twinsB k f h2 (by omega) h3 hf w
end Go.Proofs.Ytimafpigfdpnpaa.Walks
