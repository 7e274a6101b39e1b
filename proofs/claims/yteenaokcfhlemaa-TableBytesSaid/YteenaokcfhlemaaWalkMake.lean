/- Walks through the functions of the statement, and the statement over them: each contract says what the call answers and that nothing else changes. -/
import Derived.Test.YteenaokcfhlemaaProg
import Derived.Laws.BytesString
import Derived.Test.YteenaokcfhlemaaBits
import Derived.Test.YteenaokcfhlemaaHeap
import Derived.Test.YteenaokcfhlemaaAid
import Derived.Lib.Hide
import Derived.Test.YteenaokcfhlemaaArr
import Derived.Test.YteenaokcfhlemaaEql
import Derived.Test.YteenaokcfhlemaaWalkPack
import Derived.Test.YteenaokcfhlemaaWalkStore
import Derived.Test.YteenaokcfhlemaaWalkTab

import Derived.WalkKit
import Derived.WalkSpells
import Derived.WalkLawsBesides
import Derived.Deep.QuietTactic
import Derived.BigQuiet
import Derived.Deep.RegionHeld3
import Derived.Deep.DeepCutAuto
import Derived.Deep.CutBlock
import Derived.Lib.SlBytesConst
import Derived.StillTailTactics
import Derived.Laws.MakeOwn
import Derived.Deep.AppendLies
import Derived.Laws.CopyOwn
import Derived.Maps.AppendAt
import Derived.Deep.Upon
import Derived.Deep.AppendSrc
import Derived.Maps.AppendAt
import Derived.Deep.Upon
import Derived.Deep.AppendSrc
import Derived.RegionTactic
namespace Go.Proofs.Yteenaokcfhlemaa.Walks
set_option linter.unusedVariables false
set_option linter.unusedSimpArgs false
open Go.RowKit Go.Proofs.Yteenaokcfhlemaa.Bits Go.Proofs.Yteenaokcfhlemaa.Heap Go.Proofs.Yteenaokcfhlemaa.Aid Go.Proofs.Yteenaokcfhlemaa.Arr Go.Proofs.Yteenaokcfhlemaa.Eql

/-- A slice of the call's own, out of a block that is known whole. -/
theorem owns_blk {w : World} {g base : Nat} {cs : List Value} {e : TypeId} (h : Blk w g cs e) (hb : base ≤ g) (hm : cs.length ≤ maxLen) : w.ownsRow base e 1 (.slice (some ⟨g, 0, none⟩) cs.length cs.length) cs.length cs :=
  ⟨by simp, .inr ⟨g, cs.length, cs.toArray, rfl, hb, h, Nat.le_refl _, hm, by simp, by simp⟩⟩
/-- append of a slice that reads as a list (nil, or empty, or not) onto a slice of the call's own. -/
theorem run_append_row {P : Program} {α : Type} {enc : α → Value} (h1 : ∀ x, (enc x).oneCell' = true) (w : World) (base : Nat) (t ty e : TypeId) (i : TypeInfo) (z : Value) (bytes : Nat) (ht : P.underlying t = some (.slice e)) (hi : P.info? e = some i) (hz : i.zero = some z)
    (hsize : i.size = 1) (hby : i.bytes = bytes) (hzs : z.cells.size = 1) (v : Value) (n : Nat) (xs : List Value) (hown : w.ownsRow base e 1 v n xs) (sv : Value) (l : List α) (hr : Row w enc sv l)
    (h63 : n + l.length ≤ maxLen) (hbytes : (n + l.length) * bytes ≤ 140737488355328) (hbase : base ≤ w.heap.size) :
    ∃ v' w', (Builtin.append_ #[t, t] ty #[v, sv]).run P w = .ok v' w' ∧ w'.ownsRow base e 1 v' (n + l.length) (xs ++ l.map enc) ∧ w.grownBy w' v.ownBlock ∧ (v'.ownBlock = v.ownBlock ∨ v'.ownBlock = some w.heap.size) := by
  rcases hr with ⟨rfl, rfl⟩ | ⟨a, cap, rfl, _, hc⟩
  · have hle : ∃ b sl sc, v = .slice b sl sc ∧ sl ≤ sc := by
      rcases hown.2 with ⟨hv, _⟩ | ⟨g, c, _, hv, _, _, hc, _⟩
      · exact ⟨none, 0, 0, hv, Nat.le_refl _⟩
      · exact ⟨_, n, c, hv, hc⟩
    obtain ⟨b, sl, sc, rfl, hle⟩ := hle
    refine ⟨_, w, run_append_nothing w t t ty e i ht hi b sl sc hle _ (Src.ofNil w ht 0), by simpa using hown, ⟨rfl, rfl, rfl, Nat.le_refl _, fun _ _ _ => rfl⟩, .inl rfl⟩
  · obtain ⟨v', w', hr, h2, h3, _, h5⟩ := run_append_own_at (P := P) w base t ty e i z 1 bytes ht hi hz hsize hby hzs (by omega) v n xs hown a l.length cap (l.map enc) (by simp) (fun j u hj => by
      rw [List.getElem?_map] at hj
      obtain ⟨x, hx, rfl⟩ := Option.map_eq_some_iff.1 hj
      exact hc j x hx) (fun u hu => by
      obtain ⟨x, _, rfl⟩ := List.mem_map.1 hu
      exact h1 x) h63 hbytes hbase
    exact ⟨v', w', hr, h2, h3, h5⟩
theorem wp_append_row {P : Program} {α : Type} {enc : α → Value} (h1 : ∀ x, (enc x).oneCell' = true) {w : World} {o : Oper} {a : Act} {K : Act → World → Prop} {Q : Exit → Act → World → Prop} (s x : Operand) (t : TypeId)
    (ho : o.op = .call { callee := .builtin .append, args := #[s, x], argTypes := #[t, t] }) (base : Nat) (e : TypeId) (i : TypeInfo) (z : Value) (bytes : Nat) (ht : P.underlying t = some (.slice e)) (hi : P.info? e = some i) (hz : i.zero = some z)
    (hsize : i.size = 1) (hby : i.bytes = bytes) (hzs : z.cells.size = 1) (v : Value) (n : Nat) (xs : List Value) (hs : a.eval s = v) (hown : w.ownsRow base e 1 v n xs) (sv : Value) (l : List α) (hx : a.eval x = sv) (hr : Row w enc sv l)
    (h63 : n + l.length ≤ maxLen) (hbytes : (n + l.length) * bytes ≤ 140737488355328) (hbase : base ≤ w.heap.size)
    (h : ∀ v' w', w'.ownsRow base e 1 v' (n + l.length) (xs ++ l.map enc) → w.grownBy w' v.ownBlock → (v'.ownBlock = v.ownBlock ∨ v'.ownBlock = some w.heap.size) → K (a.put o.dst v') w') : o.wp P a w K Q := by
  obtain ⟨v', w', hr, h2, h3, h4⟩ := run_append_row (P := P) h1 w base t o.type e i z bytes ht hi hz hsize hby hzs v n xs hown sv l hr h63 hbytes hbase
  unfold Oper.wp execOp
  simp only [ho, resolve, invoke, builtin, Sem.run_bind, Sem.run_pure, Result.andThen_ok, List.map_toArray, List.map_cons, List.map_nil, hs, hx, hr]
  exact h v' w' h2 h3 h4
theorem wpList_append_row {P : Program} {α : Type} {enc : α → Value} (h1 : ∀ x, (enc x).oneCell' = true) {w : World} {ops : Array Oper} {rest : List Oper} {o : Oper} {a : Act} {Q : Exit → Act → World → Prop} (hgd : o.guard = none) (s x : Operand) (t : TypeId)
    (ho : o.op = .call { callee := .builtin .append, args := #[s, x], argTypes := #[t, t] }) (base : Nat) (e : TypeId) (i : TypeInfo) (z : Value) (bytes : Nat) (ht : P.underlying t = some (.slice e)) (hi : P.info? e = some i) (hz : i.zero = some z)
    (hsize : i.size = 1) (hby : i.bytes = bytes) (hzs : z.cells.size = 1) (v : Value) (n : Nat) (xs : List Value) (hs : a.eval s = v) (hown : w.ownsRow base e 1 v n xs) (sv : Value) (l : List α) (hx : a.eval x = sv) (hr : Row w enc sv l)
    (h63 : n + l.length ≤ maxLen) (hbytes : (n + l.length) * bytes ≤ 140737488355328) (hbase : base ≤ w.heap.size)
    (h : ∀ v' w', w'.ownsRow base e 1 v' (n + l.length) (xs ++ l.map enc) → w.grownBy w' v.ownBlock → (v'.ownBlock = v.ownBlock ∨ v'.ownBlock = some w.heap.size) → wpList P ops Q rest (a.put o.dst v') w') : wpList P ops Q (o :: rest) a w :=
  wpList_plain hgd fun _ hK => wp_append_row h1 s x t ho base e i z bytes ht hi hz hsize hby hzs v n xs hs hown sv l hx hr h63 hbytes hbase fun v' w' h2 h3 h4 => hK _ _ (h v' w' h2 h3 h4)
theorem step_append_row {P : Program} {α : Type} {enc : α → Value} (h1 : ∀ x, (enc x).oneCell' = true) {w : World} {ops : Array Oper} {o : Oper} {a : Act} {K : Act → World → Prop} {Q : Exit → Act → World → Prop} {E : Prop} (hgd : o.guard = none) (s x : Operand) (t : TypeId)
    (ho : o.op = .call { callee := .builtin .append, args := #[s, x], argTypes := #[t, t] }) (base : Nat) (e : TypeId) (i : TypeInfo) (z : Value) (bytes : Nat) (ht : P.underlying t = some (.slice e)) (hi : P.info? e = some i) (hz : i.zero = some z)
    (hsize : i.size = 1) (hby : i.bytes = bytes) (hzs : z.cells.size = 1) (v : Value) (n : Nat) (xs : List Value) (hs : a.eval s = v) (hown : w.ownsRow base e 1 v n xs) (sv : Value) (l : List α) (hx : a.eval x = sv) (hr : Row w enc sv l)
    (h63 : n + l.length ≤ maxLen) (hbytes : (n + l.length) * bytes ≤ 140737488355328) (hbase : base ≤ w.heap.size)
    (h : ∀ v' w', w'.ownsRow base e 1 v' (n + l.length) (xs ++ l.map enc) → w.grownBy w' v.ownBlock → (v'.ownBlock = v.ownBlock ∨ v'.ownBlock = some w.heap.size) → K (a.put o.dst v') w') :
    if Region.wanted o (yielded ops a.tmps) = true then Oper.wp P o a w K Q else E := by
  have hw : Region.wanted o (yielded ops a.tmps) = true := by simp [Region.wanted, hgd]
  rw [if_pos hw]
  exact wp_append_row h1 s x t ho base e i z bytes ht hi hz hsize hby hzs v n xs hs hown sv l hx hr h63 hbytes hbase h
def clrK (L : List Nat) (fs : List Int) : Nat → List Nat
  | 0 => L
  | k + 1 => splice8 (clrK L fs k) (256 * (fs.getD k 0).toNat + 0) (List.replicate 256 0)
def savK (L : List Nat) (f : Int) (f0 : Nat) (fs : List Int) : Nat → List Nat
  | 0 => L
  | k + 1 => splice8 (savK L f f0 fs k) (256 * f0 + 8 * k) (leB 8 (packN f true (fs.getD (k + 1) 0) true))
def frOk (L : List Nat) (x : Int) : Prop := 0 ≤ x ∧ x < ((L.length / 256 : Nat) : Int)
theorem clrK_len {L : List Nat} {fs : List Int} {k : Nat} (h : ∀ j, j < k → frOk L (fs.getD j 0)) : (clrK L fs k).length = L.length := by
  induction k with
  | zero => rfl
  | succ k ih =>
    have h1 := h k (by omega)
    unfold frOk at h1
    rw [clrK, splice8_len (by rw [List.length_replicate, ih (fun j hj => h j (by omega))]; omega), ih (fun j hj => h j (by omega))]
theorem savK_len {L : List Nat} {f : Int} {f0 : Nat} {fs : List Int} (hf0 : f0 < L.length / 256) {k : Nat} (hk : k ≤ 4) : (savK L f f0 fs k).length = L.length := by
  induction k with
  | zero => rfl
  | succ k ih => rw [savK, splice8_len (by rw [leB_length, ih (by omega)]; omega), ih (by omega)]
theorem int_info : ∃ i, Try.prog.info? 3 = some i ∧ i.zero = some (.int .i64 0) ∧ i.size = 1 ∧ i.bytes = 8 := by
  have h : (Try.prog.info? 3).map (fun i => (i.zero, i.size, i.bytes)) = some (some (.int .i64 0), 1, 8) := by kernel_rfl
  obtain ⟨i, hi, he⟩ := Option.map_eq_some_iff.1 h
  simp only [Prod.mk.injEq] at he
  exact ⟨i, hi, he.1, he.2.1, he.2.2⟩
theorem encI_one : ∀ x : Int, (encI x).oneCell' = true := fun _ => rfl
set_option maxHeartbeats 2000000 in
theorem make_arg (P : Value) (f : Int) (a : Option Addr) (n cap : Nat) (hb : n ≠ 5 ∨ (f ≠ 1 ∧ f ≠ 2)) (w : World) :
    Calls Try.prog 18 #[P, .int .i64 f, .slice a n cap] w fun e w' => e = .returned (.tuple #[.agg #[.int .i64 0, .slice none 0 0], .int .i64 1]) ∧ Below w.heap.size w w' := by
  have R1 := Lib.hid (Own.new (Below.refl _ w) #[.int .i64 0, .slice none 0 0] 35)
  have R4 := Lib.hid ((R1.out.set 0 (.int .i64 0)).set 1 (.slice none 0 0))
  rcases (by omega : ((n : Int) ≠ 5) ∨ ((n : Int) = 5 ∧ f ≠ 1 ∧ f ≠ 2)) with h | ⟨h, h1, h2⟩
  · have hn : ((n : Int) != 5) = true := by simp; omega
    clear hb h
    go_enter Try.func18, Try.ntmps18
    go_upto_region 1 with (fail)
    generalize w.alloc _ = w1 at *
    have e0 := R1.out.cell (i := 0) rfl
    have e1 := R1.out.cell (i := 1) rfl
    have f0 := R1.out.fro 0
    have f1 := R1.out.fro 1
    go_wp2_with fail
    exact bodyPost_ret (v := .tuple #[.agg #[.int .i64 0, .slice none 0 0], .int .i64 1]) (results_ct Try.results18 _ _ w.heap.size [.int .i64 0, .slice none 0 0] _ rfl R4.out.all Try.underlying35 rfl (by kernel_rfl)) rfl ⟨rfl, R4.out.bel⟩
  · have hn : ((n : Int) != 5) = false := by simp; omega
    have hf1 : (f != 1) = true := by simp; omega
    have hf2 : (f != 2) = true := by simp; omega
    clear hb h h1 h2
    go_enter Try.func18, Try.ntmps18
    go_upto_region 1 with (fail)
    generalize w.alloc _ = w1 at *
    have e0 := R1.out.cell (i := 0) rfl
    have e1 := R1.out.cell (i := 1) rfl
    have f0 := R1.out.fro 0
    have f1 := R1.out.fro 1
    go_wp2_with fail
    exact bodyPost_ret (v := .tuple #[.agg #[.int .i64 0, .slice none 0 0], .int .i64 1]) (results_ct Try.results18 _ _ w.heap.size [.int .i64 0, .slice none 0 0] _ rfl R4.out.all Try.underlying35 rfl (by kernel_rfl)) rfl ⟨rfl, R4.out.bel⟩
/-- What Make leaves: none, or the table. -/
def MakeP (w : World) (p q : Nat) (L : List Nat) (f : Int) (fs : List Int) (e : Ending) (w' : World) : Prop :=
  ((∃ k, k < 5 ∧ ¬ frOk L (fs.getD k 0)) ∧ e = .returned (.tuple #[.agg #[.int .i64 0, .slice none 0 0], .int .i64 1]) ∧ ∃ L', L'.length = L.length ∧ Su p q L' w w') ∨
  ((∀ k, k < 5 → frOk L (fs.getD k 0)) ∧ ∃ v, e = .returned (.tuple #[.agg #[.int .i64 f, v], .int .i64 0]) ∧ Su p q (savK (clrK L fs 5) f (fs.getD 0 0).toNat fs 4) w w' ∧ w'.ownsRow w.heap.size 3 1 v 5 (fs.map encI))
theorem keep_q {w w' : World} {q b : Nat} {cs : List Value} {t : TypeId} (h : Blk w b cs t) (k : Keep (fun i => i = q) w w') (hb : b ≠ q) : Blk w' b cs t := h.keep k hb
theorem Su.back {w w1 w2 : World} {p q : Nat} {L1 L2 : List Nat} (h : Su p q L1 w w1) (u : Su p q L2 w1 w2) : Su p q L2 w w2 := h.trans u
theorem St.setCell {w : World} {p q : Nat} {l : List Nat} (h : St w p q l) {b : Nat} (hp : p ≠ b) (hq : q ≠ b) (i : Nat) (v : Value) : St (w.setCell ⟨b, i, none⟩ v) p q l := by
  obtain ⟨cap, h1, h2, h3⟩ := h.hp
  obtain ⟨sp, h4⟩ := h.hq
  exact ⟨⟨cap, h1, h2, h3.other (Ne.symm hp) v⟩, ⟨sp, h4.other (Ne.symm hq) v⟩, h.ne, h.le, h.bt⟩
/-- Two cells of a block made since are stored. -/
theorem Su.setO {w w1 : World} {p q b : Nat} {l : List Nat} (h : Su p q l w w1) (hb : w.heap.size ≤ b) (hp : p < w.heap.size) (hq : q < w.heap.size) (x y : Value) : Su p q l w ((w1.setCell ⟨b, 0, none⟩ x).setCell ⟨b, 1, none⟩ y) :=
  ⟨(h.k.setCell (p := ⟨b, 0, none⟩) (fun hlt => absurd hlt (Nat.not_lt.2 hb)) x).setCell (p := ⟨b, 1, none⟩) (fun hlt => absurd hlt (Nat.not_lt.2 hb)) y, (h.b.setCell (by omega) (by omega) 0 x).setCell (by omega) (by omega) 1 y⟩
set_option maxHeartbeats 8000000 in
theorem make_calls {p q : Nat} {L : List Nat} {w : World} (h : St w p q L) (f : Int) (hf : f = 1 ∨ f = 2) (fv : Value) (fs : List Int) (hr : ∀ wx, Keep (fun i => i = q) w wx → Row wx encI fv fs) (h5 : fs.length = 5) :
    Calls Try.prog 18 #[.pointer (some ⟨p, 0, none⟩), .int .i64 f, fv] w (MakeP w p q L f fs) := by
  obtain ⟨ii, hii, hz, hs, hb⟩ := int_info
  have HI := Lib.hid hii
  have HZ := Lib.hid hz
  have HSz := Lib.hid hs
  have HBy := Lib.hid hb
  obtain ⟨a, cap, rfl⟩ := (hr w (Keep.refl _ _)).form
  obtain ⟨ad, rfl⟩ : ∃ ad, a = some ad := by
    rcases hr w (Keep.refl _ _) with ⟨_, h0⟩ | ⟨ad, c, h1, _, _⟩
    · rw [h0] at h5; cases h5
    · injection h1 with h1 _ _; exact ⟨ad, h1⟩
  have HC : Hid (∀ wx, Keep (fun i => i = q) w wx → ∀ k x, fs[k]? = some x → wx.cell? (ad.add k) = some (.int .i64 x)) := by
    intro wx hk k x hx
    rcases hr wx hk with ⟨_, h0⟩ | ⟨ad', c, h1, _, hc⟩
    · rw [h0] at hx; simp at hx
    · injection h1 with h1 _ _
      injection h1 with h1
      subst h1
      exact hc k x hx
  have HR := Lib.hid hr
  have HN : Hid (L.length / 256 ≤ 512) := by have := h.le; exact Lib.hid (by omega)
  have hq0 := h.qlt
  have PQ := Lib.hid (And.intro h.plt h.qlt)
  have NQ : Hid (w.heap.size ≠ q) := Lib.hid (by omega)
  have R1 := Lib.hid (Blk.new w #[.int .i64 0, .slice none 0 0] 35)
  have hb1 := (Below.refl w.heap.size w).alloc (Nat.le_refl _) (.cells #[.int .i64 0, .slice none 0 0] 35)
  have U1 := Lib.hid (Su.pre hb1 (Su.same (h.below hb1)))
  have HG := Lib.hid (fun k (hk : k < 5) => show fs[k]? = some (fs.getD k 0) by
    rw [List.getElem?_eq_getElem (by omega), List.getD, List.getElem?_eq_getElem (by omega)]; rfl)
  have CL := Lib.hid (fun (k : Nat) (h : ∀ j, j < k → frOk L (fs.getD j 0)) => clrK_len h)
  have hcap : 5 ≤ cap := by
    rcases hr w (Keep.refl _ _) with ⟨_, h0⟩ | ⟨ad', c, h1, hc, _⟩
    · rw [h0] at h5; cases h5
    · injection h1 with _ _ h3; omega
  rw [h5]
  clear hii hz hs hb hr hb1 hq0
  have hfa : ((f != 1) = false) ∨ ((f != 1) = true ∧ (f != 2) = false) := by
    rcases hf with rfl | rfl
    · exact .inl rfl
    · exact .inr ⟨rfl, rfl⟩
  clear hf
  go_enter Try.func18, Try.ntmps18
  go_upto_region 1 with (fail)
  generalize w.alloc _ = w1 at *
  rcases hfa with hfa | ⟨hfa, hfb⟩
  all_goals
    go_upto_region 4 with (fail)
    go_loopw [27] (fun i wr => ∃ k : Nat, k ≤ 5 ∧ i = .int .i64 k ∧ (∀ j, j < k → frOk L (fs.getD j 0)) ∧ Su p q (clrK L fs k) w wr ∧ Blk wr w.heap.size [.int .i64 0, .slice none 0 0] 35) (fun i _ => 5 - (intOf i).toNat)
    case atStart => exact ⟨0, by omega, rfl, (fun j hj => by omega), U1.out, R1.out⟩
    case round =>
      clear U1 R1
      obtain ⟨k, hk, rfl, hok, hu, hrb⟩ := hrel
      have OK := Lib.hid hok
      have U := Lib.hid hu
      have RB := Lib.hid hrb
      clear hok hu hrb
      by_cases hlt : k < 5
      · have c0 := HC.out wr U.out.k k _ (HG.out k hlt)
        have hki : (k : Int) < 5 := by omega
        have hk0 : 0 ≤ (k : Int) := by omega
        have hln := CL.out k OK.out
        by_cases hv : frOk L (fs.getD k 0)
        · have hv2 := hv
          unfold frOk at hv2
          have CC := Lib.hid (clear_calls U.out.b (fs.getD k 0).toNat (by rw [hln]; omega))
          rw [show (((fs.getD k 0).toNat : Nat) : Int) = fs.getD k 0 by omega] at CC
          rw [show splice8 (clrK L fs k) (256 * (fs.getD k 0).toNat + 0) (List.replicate 256 0) = clrK L fs (k + 1) from rfl] at CC
          have NX : Hid (∀ j, j < k + 1 → frOk L (fs.getD j 0)) := by
            intro j hj
            rcases Nat.lt_or_eq_of_le (Nat.le_of_lt_succ hj) with h | h
            · exact OK.out j h
            · rw [h]; exact hv
          clear hln hv2 hv
          generalize fs.getD k 0 = x at *
          go_wp2_with (go_at_call 26; refine CC.out.mono ?_; rintro e w2 ⟨rfl, u2⟩; have U2 := Lib.hid (U.out.back u2); have RB2 := Lib.hid (RB.out.keep u2.k NQ.out); clear u2)
          go_roundw
          case rel => exact ⟨k + 1, by omega, by go_num, NX.out, U2.out, RB2.out⟩
          case measure => simp [intOf]; omega
        · have CC := Lib.hid (clear_none (.pointer (some ⟨p, 0, none⟩)) (L.length / 256) HN.out (fs.getD k 0) wr (fun W hb => by
            have h := frames_calls (U.out.b.below hb)
            rw [hln] at h
            exact h) (by unfold frOk at hv; omega))
          have BAD : Hid (∃ k, k < 5 ∧ ¬ frOk L (fs.getD k 0)) := ⟨k, hlt, hv⟩
          have HLN := Lib.hid hln
          clear hln hv
          generalize fs.getD k 0 = x at *
          go_upto_region 8 with (go_at_call 26; refine CC.out.mono ?_; rintro e w2 ⟨rfl, u2⟩; have U2 := Lib.hid (U.out.step u2); have RB2 := Lib.hid (RB.out.below u2 RB.out.lt); clear u2)
          have e0 := RB2.out.cellAt (i := 0) rfl
          have e1 := RB2.out.cellAt (i := 1) rfl
          have f0 := RB2.out.unfrozen 0
          have f1 := RB2.out.unfrozen 1
          have RB3 := Lib.hid ((RB2.out.set 0 (.int .i64 0)).set 1 (.slice none 0 0))
          have U3 := Lib.hid (U2.out.setO (Nat.le_refl _) PQ.out.1 PQ.out.2 (.int .i64 0) (.slice none 0 0))
          go_wp2_with fail
          exact bodyPost_ret (v := .tuple #[.agg #[.int .i64 0, .slice none 0 0], .int .i64 1]) (results_ct Try.results18 _ _ w.heap.size [.int .i64 0, .slice none 0 0] _ rfl (range_all RB3.out) Try.underlying35 rfl (by kernel_rfl)) rfl (.inl ⟨BAD.out, rfl, _, HLN.out, U3.out⟩)
      · obtain rfl : k = 5 := by omega
        have hC : (clrK L fs 5).length = L.length := CL.out 5 OK.out
        have F0 : Hid (fs.getD 0 0 = (((fs.getD 0 0).toNat : Nat) : Int) ∧ (fs.getD 0 0).toNat < L.length / 256) := by
          have h := OK.out 0 (by omega)
          unfold frOk at h
          exact Lib.hid ⟨by omega, by omega⟩
        have SL := Lib.hid (fun (k : Nat) (hk : k ≤ 4) => savK_len (L := clrK L fs 5) (f := f) (f0 := (fs.getD 0 0).toNat) (fs := fs) (by rw [hC]; exact F0.out.2) hk)
        have HCL := Lib.hid hC
        clear hC CL
        generalize hce : clrK L fs 5 = C at *
        have CE := Lib.hid hce
        clear hce
        generalize hfz : (fs.getD 0 0).toNat = fz at *
        have FZ := Lib.hid hfz
        clear hfz
        have hcap4 : (1 : Int) ≤ (cap : Int) := by omega
        have hcap5 : ¬ (cap ≤ 1) := by omega
        have hcap6 : ¬ (cap = 1) := by omega
        have hcap7 : ¬ (cap - 1 = 0) := by omega
        go_upto_region 11 with (fail)
        simp only [show ((5 : Nat) : Int) = 5 from rfl]
        go_loopw [42] (fun i wr => ∃ k : Nat, k ≤ 4 ∧ i = .int .i64 k ∧ Su p q (savK C f fz fs k) w wr ∧ Blk wr w.heap.size [.int .i64 0, .slice none 0 0] 35) (fun i _ => 4 - (intOf i).toNat)
        case atStart => exact ⟨0, by omega, rfl, U.out, RB.out⟩
        case round =>
          clear U RB
          obtain ⟨j, hj, rfl, hu, hrb⟩ := hrel
          have U := Lib.hid hu
          have RB := Lib.hid hrb
          clear hu hrb
          by_cases hlt : j < 4
          · have c0 : wr.cell? ad = some (.int .i64 (fs.getD 0 0)) := by
              have h := HC.out wr U.out.k 0 _ (HG.out 0 (by omega))
              rw [show ad.add 0 = ad by unfold Addr.add; simp] at h
              exact h
            have c1 : wr.cell? ⟨ad.block, ad.off + 1 + j, none⟩ = some (.int .i64 (fs.getD (j + 1) 0)) := by
              have h := HC.out wr U.out.k (j + 1) _ (HG.out (j + 1) (by omega))
              rw [← h]
              congr 1
              unfold Addr.add
              rw [if_neg (by omega)]
              simp only [Addr.mk.injEq, true_and, and_true]
              omega
            have hki : (j : Int) < 4 := by omega
            have hk0 : 0 ≤ (j : Int) := by omega
            have PC := Lib.hid (fun W => pack_calls f true (fs.getD (j + 1) 0) true W)
            have SC := Lib.hid (fun W (hb : Below wr.heap.size wr W) => save_calls (U.out.b.below hb) fz j (packN f true (fs.getD (j + 1) 0) true) (by rw [SL.out j hj, HCL.out]; exact F0.out.2) (by omega))
            rw [← F0.out.1] at SC
            have NX := Lib.hid (show splice8 (savK C f fz fs j) (256 * fz + 8 * j) (leB 8 (packN f true (fs.getD (j + 1) 0) true)) = savK C f fz fs (j + 1) from rfl)
            rw [NX.out] at SC
            have CD := Lib.hid (fun W (hb : Below wr.heap.size wr W) => (hb.cell (World.block_lt_of_cell? wr _ c0)).trans c0)
            have QB := Lib.hid (below_drewN (Below.refl wr.heap.size wr) 1)
            clear NX
            generalize hl2 : savK C f fz fs (j + 1) = L2 at *
            have HL2 := Lib.hid hl2
            clear hl2
            generalize ((packN f true (fs.getD (j + 1) 0) true : Nat) : Int) = pk at *
            generalize fs.getD (j + 1) 0 = x1 at *
            generalize fs.getD 0 0 = x0 at *
            go_upto_region 13 with (fail)
            go_region_law (first
              | ((with_reducible refine call_gate 10 ?_); go_simp; go_at_call 10; refine (PC.out _).mono ?_; rintro e w2 ⟨rfl, u2⟩; have B2 := Lib.hid (QB.out.trans u2); have cX := CD.out _ B2.out; clear u2)
              | ((with_reducible refine call_gate 23 ?_); go_simp; go_at_call 23; refine (SC.out _ B2.out).mono ?_; rintro e w3 ⟨rfl, u3⟩; have U3 := Lib.hid (U.out.back (Su.pre B2.out u3)); have RB3 := Lib.hid (RB.out.keep (Su.pre B2.out u3).k NQ.out); clear u3))
            all_goals
              go_wp2_with fail
              go_roundw
              case rel => exact ⟨j + 1, by omega, by go_num, by rw [HL2.out]; exact U3.out, RB3.out⟩
              case measure => simp [intOf]; omega
          · obtain rfl : j = 4 := by omega
            have AR := Lib.hid (HR.out wr U.out.k)
            rw [h5] at AR
            have WM : Hid (w.heap.size ≤ wr.heap.size) := U.out.k.size
            have H5 := Lib.hid h5
            go_upto_region 15 with (fail)
            go_wp2_with (at_builtin; refine wpList_append_row encI_one (by rfl) _ _ _ (by rfl) w.heap.size 3 ii _ 8 Try.underlying33 HI.out HZ.out HSz.out HBy.out (by rfl) (.slice none 0 0) 0 [] (by rfl) (World.ownsRow_nil _ _ _ _) _ fs (by rfl) AR.out (by rw [H5.out]; unfold maxLen; omega) (by rw [H5.out]; omega) WM.out ?_; intro v7 w7 hown hgrow hat; rw [H5.out] at hown; obtain ⟨a7, c7, rfl⟩ := own_form hown; have N7 := Lib.hid hown; have G7 := Lib.hid (below_grown (Below.refl _ _) hgrow (fun k hk => by cases hk)); have A7 := Lib.hid hat; have U7 := Lib.hid (U.out.step G7.out); have RB7 := Lib.hid (RB.out.below G7.out RB.out.lt); have e0 := RB7.out.cellAt (i := 0) rfl; have e1 := RB7.out.cellAt (i := 1) rfl; have f0 := RB7.out.unfrozen 0; have f1 := RB7.out.unfrozen 1; clear hown hgrow hat)
            have RB8 := Lib.hid ((RB7.out.set 0 (.int .i64 f)).set 1 (.slice a7 5 c7))
            have U8 := Lib.hid (U7.out.setO (Nat.le_refl _) PQ.out.1 PQ.out.2 (.int .i64 f) (.slice a7 5 c7))
            have RLT : Hid (w.heap.size < wr.heap.size) := RB.out.lt
            have N8 : Hid (((w7.setCell ⟨w.heap.size, 0, none⟩ (.int .i64 f)).setCell ⟨w.heap.size, 1, none⟩ (.slice a7 5 c7)).ownsRow w.heap.size 3 1 (.slice a7 5 c7) 5 (fs.map encI)) := by
              have h := N7.out
              rw [Nat.zero_add, List.nil_append] at h
              refine sl_keep h (((Keep.refl (fun i => i = w.heap.size) w7).setCell (p := ⟨w.heap.size, 0, none⟩) (fun _ => rfl) _).setCell (p := ⟨w.heap.size, 1, none⟩) (fun _ => rfl) _) (fun g e e2 => ?_)
              rcases A7.out with h1 | h1
              · rw [Nat.zero_add] at h1
                rw [e] at h1; cases h1
              · rw [Nat.zero_add] at h1
                rw [e] at h1
                injection h1 with h1
                have := RLT.out
                omega
            refine bodyPost_ret (v := .tuple #[.agg #[.int .i64 f, .slice a7 5 c7], .int .i64 0]) (results_ct Try.results18 _ _ w.heap.size [.int .i64 f, .slice a7 5 c7] _ rfl (range_all RB8.out) Try.underlying35 rfl (by kernel_rfl)) rfl (.inr ⟨OK.out, _, rfl, ?_, N8.out⟩)
            rw [FZ.out, CE.out]
            exact U8.out
end Go.Proofs.Yteenaokcfhlemaa.Walks
