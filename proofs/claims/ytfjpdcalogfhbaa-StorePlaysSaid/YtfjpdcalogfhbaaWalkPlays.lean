/- Walks through the functions of the statement, and the statement over them: each contract says what the call answers and that nothing else changes. -/
import Derived.Test.YtfjpdcalogfhbaaProg
import Derived.Test.YtfjpdcalogfhbaaWalkStore
import Derived.Test.YtfjpdcalogfhbaaWalkStore2
import Derived.Laws.BytesString
import Derived.Test.YtfjpdcalogfhbaaBits
import Derived.Test.YtfjpdcalogfhbaaHeap
import Derived.Test.YtfjpdcalogfhbaaAid
import Derived.Lib.Hide
import Derived.Test.YtfjpdcalogfhbaaArr
import Derived.Test.YtfjpdcalogfhbaaEql
import Derived.WalkKit
import Derived.WalkSpells
import Derived.WalkLawsBesides
import Derived.Deep.QuietTactic
import Derived.BigQuiet
import Derived.Deep.RegionHeld3
import Derived.Deep.DeepCutAuto
import Derived.Deep.CutBlock
import Derived.Lib.SlBytesConst
import Derived.StillTailTactics
import Derived.Laws.MakeOwn
import Derived.Deep.AppendLies
import Derived.Laws.CopyOwn
import Derived.RegionTactic
import Derived.Great.Walk
import Derived.Deep.Upon
import Derived.Deep.AppendLies
import Derived.Deep.RegionLaw
import Derived.Laws.MakeOwn
namespace Go.Proofs.Ytfjpdcalogfhbaa.Walks
set_option linter.unusedVariables false
set_option linter.unusedSimpArgs false
open Go.RowKit Go.Proofs.Ytfjpdcalogfhbaa.Bits Go.Proofs.Ytfjpdcalogfhbaa.Heap Go.Proofs.Ytfjpdcalogfhbaa.Aid Go.Proofs.Ytfjpdcalogfhbaa.Arr Go.Proofs.Ytfjpdcalogfhbaa.Eql

/-- A copy out of a row that came in, or was made. -/
theorem wpList_copy_row {P : Program} {w : World} {ops : Array Oper} {rest : List Oper} {o : Oper} {a : Act} {Q : Exit → Act → World → Prop} (hgd : o.guard = none) (d s : Operand) (dT sT : TypeId)
    (ho : o.op = .call { callee := .builtin .copy, args := #[d, s], argTypes := #[dT, sT] }) (elem : TypeId) (hu : P.underlying dT = some (.slice elem)) (hsz : (P.info? elem).map (·.size) = some 1)
    (g off dLen dCap : Nat) (l : List Nat) (hd : a.eval d = .slice (some ⟨g, off, none⟩) dLen dCap) (hr : Row w enc8 (a.eval s) l) (hn : l.length ≤ dLen)
    (hc : ∀ j, j < l.length → (w.cell? ⟨g, off + j, none⟩).isSome = true) (hf : ∀ j, j < l.length → w.frozen? ⟨g, off + j, none⟩ = false)
    (h : wpList P ops Q rest (a.put o.dst (goInt l.length)) (w.setCells g off (l.map enc8))) : wpList P ops Q (o :: rest) a w := by
  obtain ⟨sa, scap, hs⟩ := hr.form
  rcases Nat.eq_zero_or_pos l.length with h0 | h0
  · have hl : l = [] := List.eq_nil_of_length_eq_zero h0
    subst hl
    exact wpList_copy_nothing hgd d s dT sT ho elem hu hsz (some ⟨g, off, none⟩) sa dLen dCap 0 scap hd hs (by simp) h
  · rcases hr with ⟨_, h1⟩ | ⟨ad, scap', h1, _, h2⟩
    · rw [h1] at h0; simp at h0
    · exact wpList_copy_any hgd d s dT sT ho elem hu hsz g off dLen dCap ad l.length scap' hd h1 (l.map enc8) (by rw [List.length_map]; exact (Nat.min_eq_left hn).symm) (fun j u hu => by
        rw [List.getElem?_map] at hu
        obtain ⟨x, hx, rfl⟩ := Option.map_eq_some_iff.1 hu
        exact h2 j x hx) (fun j hj => hc j (by simpa using hj)) (fun j hj => hf j (by simpa using hj)) (one_enc8 l) (by rw [List.length_map]; exact h)
theorem Os.setCells {w w1 : World} {p q : Nat} {l : List Nat} (h : Os w p q l w1) {b : Nat} (hp : p ≠ b) (hq : q ≠ b) (hn : w.heap.size ≤ b) (o : Nat) (vs : List Value) : Os w p q l (w1.setCells b o vs) := by
  refine ⟨below_setCells h.bel hn o vs, h.n, ?_⟩
  obtain ⟨cap, h1, h2, h3⟩ := h.k.hp
  obtain ⟨sp, h4⟩ := h.k.hq
  exact ⟨⟨cap, h1, h2, blk_setOther h3 hp o vs⟩, ⟨sp, blk_setOther h4 hq o vs⟩, h.k.ne, h.k.le, h.k.bt⟩
theorem Own.setHead {w w1 : World} {b : Nat} {cs : List Value} {t : TypeId} (h : Own w b cs t w1) (vs : List Value) (hl : vs.length ≤ cs.length) : Own w b (vs ++ cs.drop vs.length) t (w1.setCells b 0 vs) :=
  ⟨below_setCells h.bel h.n 0 vs, h.n, by
    rcases Blk.setCells h.k 0 vs with k | k
    · simpa using k
    · omega⟩
theorem Own.keep {S : Nat → Prop} {w w1 w2 : World} {b : Nat} {cs : List Value} {t : TypeId} (h : Own w b cs t w1) (k : Keep S w1 w2) (hb : ¬ S b) (hs : ∀ i, i < w.heap.size → ¬ S i) : Own w b cs t w2 :=
  ⟨Keep.belowB h.bel k h.bel.size hs, h.n, h.k.keep k hb⟩
theorem own_ge {w : World} {base : Nat} {e : TypeId} {size : Nat} {v : Value} {n : Nat} {xs : List Value} (h : w.ownsRow base e size v n xs) : ∀ g, v.ownBlock = some g → base ≤ g := fun g hg => (World.ownsRow.lt h g hg).1
theorem own_form {w : World} {base : Nat} {e : TypeId} {size : Nat} {v : Value} {n : Nat} {xs : List Value} (h : w.ownsRow base e size v n xs) : ∃ a cap, v = .slice a n cap := by
  rcases h.2 with ⟨hv, h0⟩ | ⟨g, cap, cur, hv, _⟩
  · exact ⟨none, 0, by rw [hv, h0]⟩
  · exact ⟨_, cap, hv⟩
/-- A slice of elements of several cells, in whatever later world. -/
theorem rowS_of {w : World} {e : Sh} {v : Value} (h : Fits w (.slice e) [v]) (h0 : 0 < e.size) : ∃ (a : Option Addr) (cap : Nat) (segs : List (List Value)), v = .slice a segs.length cap ∧ segs.length ≤ cap ∧ cap ≤ maxLen ∧ (∀ s ∈ segs, Fits w e s) ∧
    ∀ (i : Nat) (s : List Value), segs[i]? = some s → ∃ b off, a = some ⟨b, off, none⟩ ∧ ∀ wx, Below w.heap.size w wx → wx.rangeAt b (off + i * e.size) s := by
  rcases h with h | ⟨a, len, cap, segs, h1, hl, hm, h2, h3, h4⟩
  · simp only [List.cons.injEq, and_true] at h
    exact ⟨none, 0, [], h, Nat.le_refl _, Nat.zero_le _, (fun s hs => by cases hs), (fun i s hs => by simp at hs)⟩
  · simp only [List.cons.injEq, and_true] at h1
    refine ⟨some a, cap, segs, by rw [h1, h2], by omega, hm, h4, fun i s hs => ?_⟩
    have hlt : i < segs.length := by
      rcases Nat.lt_or_ge i segs.length with h | h
      · exact h
      · rw [List.getElem?_eq_none h] at hs; cases hs
    have hx : segs[0]? = some segs[0] := List.getElem?_eq_getElem (by omega)
    obtain ⟨_, hn0, hc0⟩ := World.cells?_some (h3 0 _ hx)
    have hspot : a.spot = none := by
      have h5 := hc0 0 h0
      rw [Nat.zero_mul] at h5
      have h6 : w.cell? a = segs[0][0]? := h5
      rw [List.getElem?_eq_getElem (by omega)] at h6
      unfold World.cell? at h6
      split at h6
      · split at h6
        · cases h6
        · rename_i hsp
          cases hq : a.spot with
          | none => rfl
          | some q => rw [hq] at hsp; simp at hsp
      · cases h6
    obtain ⟨b, off, sp⟩ := a
    simp only at hspot
    subst hspot
    refine ⟨b, off, rfl, fun wx hb j u hu => ?_⟩
    obtain ⟨_, hn, hc⟩ := World.cells?_some (h3 i s hs)
    have hj : j < e.size := by
      rw [← hn]
      rcases Nat.lt_or_ge j s.length with h | h
      · exact h
      · rw [List.getElem?_eq_none h] at hu; cases hu
    have h7 := hc j hj
    have ea : ((⟨b, off, none⟩ : Addr).add (i * e.size)).add j = ⟨b, off + i * e.size + j, none⟩ := by
      unfold Addr.add
      by_cases h8 : i * e.size = 0
      · rw [if_pos h8]
        by_cases h9 : j = 0
        · rw [if_pos h9, h8, h9]; rfl
        · rw [if_neg h9, h8]; rfl
      · rw [if_neg h8]
        by_cases h9 : j = 0
        · rw [if_pos h9, h9]; rfl
        · rw [if_neg h9]
    rw [ea, hu] at h7
    rw [hb.cell (World.block_lt_of_cell? w _ h7), h7]
theorem wf_i64_mk {a : Int} (h : -9223372036854775808 ≤ a ∧ a ≤ 9223372036854775807) : (Lit.int .i64 a).wf = true := by
  simp [Lit.wf, IntKind.min, IntKind.max, IntKind.signed, IntKind.bits]; omega
/-- Is this load, this store, ahead? (Asked ahead of a law, so that a law that does not fit fails at once.) -/
theorem load_gate {P : Program} {ops : Array Oper} {Q : Exit → Act → World → Prop} {rest : List Oper} {a : Act} {w : World} {dst : Option Tmp} {t : TypeId} {pos : String} {aft : Array Edge} {g : Option (Nat × Bool)} (ty : TypeId) (n : Tmp)
    (h : wpList P ops Q (⟨dst, .load ty (.tmp n), t, pos, aft, g⟩ :: rest) a w) : wpList P ops Q (⟨dst, .load ty (.tmp n), t, pos, aft, g⟩ :: rest) a w := h
theorem store_gate {P : Program} {ops : Array Oper} {Q : Exit → Act → World → Prop} {rest : List Oper} {a : Act} {w : World} {dst : Option Tmp} {t : TypeId} {pos : String} {aft : Array Edge} {g : Option (Nat × Bool)} (ty : TypeId) (n m : Tmp)
    (h : wpList P ops Q (⟨dst, .store ty (.tmp n) (.tmp m), t, pos, aft, g⟩ :: rest) a w) : wpList P ops Q (⟨dst, .store ty (.tmp n) (.tmp m), t, pos, aft, g⟩ :: rest) a w := h
/-- Is this call ahead, at a step of a region that draws? -/
theorem call_gate {P : Program} {ops : Array Oper} {a : Act} {w : World} {K : Act → World → Prop} {Q : Exit → Act → World → Prop} {E : Prop} {dst : Option Tmp} {t : TypeId} {pos : String} {aft : Array Edge} {g : Option (Nat × Bool)} {args : Array Operand} {ats : Array TypeId} (f : FuncId)
    (h : if Region.wanted ⟨dst, .call { callee := .value (.func f), args := args, argTypes := ats }, t, pos, aft, g⟩ (yielded ops a.tmps) = true then Oper.wp P ⟨dst, .call { callee := .value (.func f), args := args, argTypes := ats }, t, pos, aft, g⟩ a w K Q else E) :
    if Region.wanted ⟨dst, .call { callee := .value (.func f), args := args, argTypes := ats }, t, pos, aft, g⟩ (yielded ops a.tmps) = true then Oper.wp P ⟨dst, .call { callee := .value (.func f), args := args, argTypes := ats }, t, pos, aft, g⟩ a w K Q else E := h
theorem build_gate {P : Program} {ops : Array Oper} {Q : Exit → Act → World → Prop} {rest : List Oper} {a : Act} {w : World} {t ty : TypeId} {parts : Array (Nat × Operand)} {pos : String} {aft : Array Edge} {g : Option (Nat × Bool)} (n : Tmp)
    (h : wpList P ops Q (⟨some n, .build t parts, ty, pos, aft, g⟩ :: rest) a w) : wpList P ops Q (⟨some n, .build t parts, ty, pos, aft, g⟩ :: rest) a w := h
theorem bslice_gate {P : Program} {ops : Array Oper} {Q : Exit → Act → World → Prop} {rest : List Oper} {a : Act} {w : World} {t ty : TypeId} {k : Nat} {parts : Array (Nat × Operand)} {pos : String} {aft : Array Edge} {g : Option (Nat × Bool)} (n : Tmp)
    (h : wpList P ops Q (⟨some n, .buildSlice t k parts, ty, pos, aft, g⟩ :: rest) a w) : wpList P ops Q (⟨some n, .buildSlice t k parts, ty, pos, aft, g⟩ :: rest) a w := h
theorem copy_gate {P : Program} {ops : Array Oper} {Q : Exit → Act → World → Prop} {rest : List Oper} {a : Act} {w : World} {t : TypeId} {args : Array Operand} {ats : Array TypeId} {pos : String} {aft : Array Edge} {g : Option (Nat × Bool)} (n : Tmp)
    (h : wpList P ops Q (⟨some n, .call { callee := .builtin .copy, args := args, argTypes := ats }, t, pos, aft, g⟩ :: rest) a w) : wpList P ops Q (⟨some n, .call { callee := .builtin .copy, args := args, argTypes := ats }, t, pos, aft, g⟩ :: rest) a w := h
/-- A slice of the call's own, out of a block that is known whole. -/
theorem owns_blk {w : World} {g base : Nat} {cs : List Value} {e : TypeId} (h : Blk w g cs e) (hb : base ≤ g) (hm : cs.length ≤ maxLen) : w.ownsRow base e 1 (.slice (some ⟨g, 0, none⟩) cs.length cs.length) cs.length cs :=
  ⟨by simp, .inr ⟨g, cs.length, cs.toArray, rfl, hb, h, Nat.le_refl _, hm, by simp, by simp⟩⟩
/-- append of a slice that reads as a list (nil, or empty, or not) onto a slice of the call's own. -/
theorem run_append_row {P : Program} {α : Type} {enc : α → Value} (h1 : ∀ x, (enc x).oneCell' = true) (w : World) (base : Nat) (t ty e : TypeId) (i : TypeInfo) (z : Value) (bytes : Nat) (ht : P.underlying t = some (.slice e)) (hi : P.info? e = some i) (hz : i.zero = some z)
    (hsize : i.size = 1) (hby : i.bytes = bytes) (hzs : z.cells.size = 1) (v : Value) (n : Nat) (xs : List Value) (hown : w.ownsRow base e 1 v n xs) (sv : Value) (l : List α) (hr : Row w enc sv l)
    (h63 : n + l.length ≤ maxLen) (hbytes : (n + l.length) * bytes ≤ 140737488355328) (hbase : base ≤ w.heap.size) :
    ∃ v' w', (Builtin.append_ #[t, t] ty #[v, sv]).run P w = .ok v' w' ∧ w'.ownsRow base e 1 v' (n + l.length) (xs ++ l.map enc) ∧ w.grownBy w' v.ownBlock ∧ (v'.ownBlock = v.ownBlock ∨ v'.ownBlock = some w.heap.size) := by
  rcases hr with ⟨rfl, rfl⟩ | ⟨a, cap, rfl, _, hc⟩
  · have hle : ∃ b sl sc, v = .slice b sl sc ∧ sl ≤ sc := by
      rcases hown.2 with ⟨hv, _⟩ | ⟨g, c, _, hv, _, _, hc, _⟩
      · exact ⟨none, 0, 0, hv, Nat.le_refl _⟩
      · exact ⟨_, n, c, hv, hc⟩
    obtain ⟨b, sl, sc, rfl, hle⟩ := hle
    refine ⟨_, w, run_append_nothing w t t ty e i ht hi b sl sc hle _ (Src.ofNil w ht 0), by simpa using hown, ⟨rfl, rfl, rfl, Nat.le_refl _, fun _ _ _ => rfl⟩, .inl rfl⟩
  · obtain ⟨v', w', hr, h2, h3, _, h5⟩ := run_append_own_at (P := P) w base t ty e i z 1 bytes ht hi hz hsize hby hzs (by omega) v n xs hown a l.length cap (l.map enc) (by simp) (fun j u hj => by
      rw [List.getElem?_map] at hj
      obtain ⟨x, hx, rfl⟩ := Option.map_eq_some_iff.1 hj
      exact hc j x hx) (fun u hu => by
      obtain ⟨x, _, rfl⟩ := List.mem_map.1 hu
      exact h1 x) h63 hbytes hbase
    exact ⟨v', w', hr, h2, h3, h5⟩
theorem wp_append_row {P : Program} {α : Type} {enc : α → Value} (h1 : ∀ x, (enc x).oneCell' = true) {w : World} {o : Oper} {a : Act} {K : Act → World → Prop} {Q : Exit → Act → World → Prop} (s x : Operand) (t : TypeId)
    (ho : o.op = .call { callee := .builtin .append, args := #[s, x], argTypes := #[t, t] }) (base : Nat) (e : TypeId) (i : TypeInfo) (z : Value) (bytes : Nat) (ht : P.underlying t = some (.slice e)) (hi : P.info? e = some i) (hz : i.zero = some z)
    (hsize : i.size = 1) (hby : i.bytes = bytes) (hzs : z.cells.size = 1) (v : Value) (n : Nat) (xs : List Value) (hs : a.eval s = v) (hown : w.ownsRow base e 1 v n xs) (sv : Value) (l : List α) (hx : a.eval x = sv) (hr : Row w enc sv l)
    (h63 : n + l.length ≤ maxLen) (hbytes : (n + l.length) * bytes ≤ 140737488355328) (hbase : base ≤ w.heap.size)
    (h : ∀ v' w', w'.ownsRow base e 1 v' (n + l.length) (xs ++ l.map enc) → w.grownBy w' v.ownBlock → (v'.ownBlock = v.ownBlock ∨ v'.ownBlock = some w.heap.size) → K (a.put o.dst v') w') : o.wp P a w K Q := by
  obtain ⟨v', w', hr, h2, h3, h4⟩ := run_append_row (P := P) h1 w base t o.type e i z bytes ht hi hz hsize hby hzs v n xs hown sv l hr h63 hbytes hbase
  unfold Oper.wp execOp
  simp only [ho, resolve, invoke, builtin, Sem.run_bind, Sem.run_pure, Result.andThen_ok, List.map_toArray, List.map_cons, List.map_nil, hs, hx, hr]
  exact h v' w' h2 h3 h4
theorem wpList_append_row {P : Program} {α : Type} {enc : α → Value} (h1 : ∀ x, (enc x).oneCell' = true) {w : World} {ops : Array Oper} {rest : List Oper} {o : Oper} {a : Act} {Q : Exit → Act → World → Prop} (hgd : o.guard = none) (s x : Operand) (t : TypeId)
    (ho : o.op = .call { callee := .builtin .append, args := #[s, x], argTypes := #[t, t] }) (base : Nat) (e : TypeId) (i : TypeInfo) (z : Value) (bytes : Nat) (ht : P.underlying t = some (.slice e)) (hi : P.info? e = some i) (hz : i.zero = some z)
    (hsize : i.size = 1) (hby : i.bytes = bytes) (hzs : z.cells.size = 1) (v : Value) (n : Nat) (xs : List Value) (hs : a.eval s = v) (hown : w.ownsRow base e 1 v n xs) (sv : Value) (l : List α) (hx : a.eval x = sv) (hr : Row w enc sv l)
    (h63 : n + l.length ≤ maxLen) (hbytes : (n + l.length) * bytes ≤ 140737488355328) (hbase : base ≤ w.heap.size)
    (h : ∀ v' w', w'.ownsRow base e 1 v' (n + l.length) (xs ++ l.map enc) → w.grownBy w' v.ownBlock → (v'.ownBlock = v.ownBlock ∨ v'.ownBlock = some w.heap.size) → wpList P ops Q rest (a.put o.dst v') w') : wpList P ops Q (o :: rest) a w :=
  wpList_plain hgd fun _ hK => wp_append_row h1 s x t ho base e i z bytes ht hi hz hsize hby hzs v n xs hs hown sv l hx hr h63 hbytes hbase fun v' w' h2 h3 h4 => hK _ _ (h v' w' h2 h3 h4)
theorem step_append_row {P : Program} {α : Type} {enc : α → Value} (h1 : ∀ x, (enc x).oneCell' = true) {w : World} {ops : Array Oper} {o : Oper} {a : Act} {K : Act → World → Prop} {Q : Exit → Act → World → Prop} {E : Prop} (hgd : o.guard = none) (s x : Operand) (t : TypeId)
    (ho : o.op = .call { callee := .builtin .append, args := #[s, x], argTypes := #[t, t] }) (base : Nat) (e : TypeId) (i : TypeInfo) (z : Value) (bytes : Nat) (ht : P.underlying t = some (.slice e)) (hi : P.info? e = some i) (hz : i.zero = some z)
    (hsize : i.size = 1) (hby : i.bytes = bytes) (hzs : z.cells.size = 1) (v : Value) (n : Nat) (xs : List Value) (hs : a.eval s = v) (hown : w.ownsRow base e 1 v n xs) (sv : Value) (l : List α) (hx : a.eval x = sv) (hr : Row w enc sv l)
    (h63 : n + l.length ≤ maxLen) (hbytes : (n + l.length) * bytes ≤ 140737488355328) (hbase : base ≤ w.heap.size)
    (h : ∀ v' w', w'.ownsRow base e 1 v' (n + l.length) (xs ++ l.map enc) → w.grownBy w' v.ownBlock → (v'.ownBlock = v.ownBlock ∨ v'.ownBlock = some w.heap.size) → K (a.put o.dst v') w') :
    if Region.wanted o (yielded ops a.tmps) = true then Oper.wp P o a w K Q else E := by
  have hw : Region.wanted o (yielded ops a.tmps) = true := by simp [Region.wanted, hgd]
  rw [if_pos hw]
  exact wp_append_row h1 s x t ho base e i z bytes ht hi hz hsize hby hzs v n xs hs hown sv l hx hr h63 hbytes hbase h
/-- The post of a panic does not hang on the frame: said once. -/
theorem quiet_post {P : Program} {md : Region.Mode} {ops : Array Oper} {Q : Exit → Act → World → Prop} {S : World → Prop} {f : Nat} {l : Array Bool} {a : Act} {w : World}
    (h0 : ∀ c (a : Act) (d : Option Tmp) (v : Value) (w : World), Q (.panic c) (a.put d v) w → Q (.panic c) a w)
    (h : (∀ c (a : Act) (d : Option Tmp) (v : Value) (w : World), Q (.panic c) (a.put d v) w → Q (.panic c) a w) → wpAnyH P md ops Q S f l a w) : wpAnyH P md ops Q S f l a w := h h0
theorem Os.keep {S : Nat → Prop} {w w1 w2 : World} {p q : Nat} {l : List Nat} (h : Os w p q l w1) (k : Keep S w1 w2) (hp : ¬ S p) (hq : ¬ S q) (hs : ∀ i, i < w.heap.size → ¬ S i) : Os w p q l w2 := by
  obtain ⟨cap, h1, h2, h3⟩ := h.k.hp
  obtain ⟨sp, h4⟩ := h.k.hq
  exact ⟨Keep.belowB h.bel k h.bel.size hs, h.n, ⟨⟨cap, h1, h2, h3.keep k hp⟩, ⟨sp, h4.keep k hq⟩, h.k.ne, h.k.le, h.k.bt⟩⟩
/-- The bytes of a frame. -/
def frm (l : List Nat) (i : Nat) : List Nat := (l.drop (256 * i)).take 256
theorem frm_len {l : List Nat} {k i : Nat} (h : l.length = 256 * k) (hi : i < k) : (frm l i).length = 256 := by
  unfold frm; rw [List.length_take, List.length_drop, h]; omega
theorem frm_get {l : List Nat} {i n : Nat} : (frm l i)[n]? = if n < 256 then l[256 * i + n]? else none := by
  unfold frm
  rw [List.getElem?_take, List.getElem?_drop]
theorem splice_get {l : List Nat} {i n : Nat} {s : List Nat} (h : i + s.length ≤ l.length) : (splice8 l i s)[n]? = if n < i then l[n]? else if n < i + s.length then s[n - i]? else l[n]? := by
  unfold splice8
  by_cases h1 : n < i
  · rw [if_pos h1, List.append_assoc, List.getElem?_append_left (by rw [List.length_take]; omega), List.getElem?_take, if_pos h1]
  · rw [if_neg h1]
    by_cases h2 : n < i + s.length
    · rw [if_pos h2, List.getElem?_append_left (by rw [List.length_append, List.length_take]; omega), List.getElem?_append_right (by rw [List.length_take]; omega), List.length_take]
      congr 1
      omega
    · rw [if_neg h2, List.getElem?_append_right (by rw [List.length_append, List.length_take]; omega), List.getElem?_drop, List.length_append, List.length_take]
      congr 1
      omega
theorem frm_splice {l : List Nat} {k i off : Nat} {s : List Nat} (h : l.length = 256 * k) (hi : i < k) (hs : off + s.length ≤ 256) (j : Nat) (hj : j < k) :
    frm (splice8 l (256 * i + off) s) j = if j = i then splice8 (frm l i) off s else frm l j := by
  have hl : 256 * i + off + s.length ≤ l.length := by omega
  apply List.ext_getElem?
  intro n
  rw [frm_get, splice_get hl]
  by_cases hn : n < 256
  · rw [if_pos hn]
    by_cases e : j = i
    · subst e
      rw [if_pos rfl, splice_get (by rw [frm_len h hi]; exact hs), frm_get, if_pos hn]
      by_cases h1 : n < off
      · rw [if_pos h1, if_pos (by omega)]
      · rw [if_neg h1, if_neg (by omega)]
        by_cases h2 : n < off + s.length
        · rw [if_pos h2, if_pos (by omega)]
          congr 1
          omega
        · rw [if_neg h2, if_neg (by omega)]
    · rw [if_neg e, frm_get, if_pos hn]
      by_cases h1 : 256 * j + n < 256 * i + off
      · rw [if_pos h1]
      · rw [if_neg h1, if_neg (by omega)]
  · rw [if_neg hn]
    by_cases e : j = i
    · subst e
      rw [if_pos rfl, splice_get (by rw [frm_len h hi]; exact hs), frm_get, if_neg hn, if_neg (by omega), if_neg (by omega)]
    · rw [if_neg e, frm_get, if_neg hn]
theorem splice_all {f s : List Nat} (hf : f.length = 256) (hs : s.length = 256) : splice8 f 0 s = s := by
  unfold splice8
  rw [List.take_zero, List.nil_append, List.drop_eq_nil_of_le (by omega), List.append_nil]
theorem frm_rep (k i : Nat) (hi : i < k) : frm (List.replicate (256 * k) 0) i = List.replicate 256 0 := by
  unfold frm
  rw [List.drop_replicate, List.take_replicate]
  congr 1
  omega
def entV (e : Nat × Nat) : Value := .slice (some ⟨e.1, 0, none⟩) 256 e.2
/-- A frame of the mirror: a block of its own. -/
structure Fr (w : World) (e : Nat × Nat) (f : List Nat) (W : World) : Prop where
  o : ∃ sp, Own w e.1 (f.map enc8 ++ sp) 5 W
  c1 : 256 ≤ e.2
  c2 : e.2 ≤ maxLen
theorem Fr.keep {S : Nat → Prop} {w W W' : World} {e : Nat × Nat} {f : List Nat} (h : Fr w e f W) (k : Keep S W W') (hb : ¬ S e.1) (hs : ∀ i, i < w.heap.size → ¬ S i) : Fr w e f W' := by
  obtain ⟨sp, h1⟩ := h.o
  exact ⟨⟨sp, h1.keep k hb hs⟩, h.c1, h.c2⟩
theorem Fr.step {w W W' : World} {e : Nat × Nat} {f : List Nat} (h : Fr w e f W) (b : Below W.heap.size W W') : Fr w e f W' := by
  obtain ⟨sp, h1⟩ := h.o
  exact ⟨⟨sp, h1.step b⟩, h.c1, h.c2⟩
theorem Fr.lt {w W : World} {e : Nat × Nat} {f : List Nat} (h : Fr w e f W) : e.1 < W.heap.size := by obtain ⟨sp, h1⟩ := h.o; exact h1.lt
theorem Own.setSeg {w w1 : World} {b : Nat} {cs : List Value} {t : TypeId} (h : Own w b cs t w1) (o : Nat) (vs : List Value) (hl : o + vs.length ≤ cs.length) : Own w b (cs.take o ++ vs ++ cs.drop (o + vs.length)) t (w1.setCells b o vs) :=
  ⟨below_setCells h.bel h.n o vs, h.n, by
    rcases Blk.setCells h.k o vs with k | k
    · exact k
    · omega⟩
theorem keep_setCells {S : Nat → Prop} {a w : World} (h : Keep S a w) {b : Nat} (hb : b < a.heap.size → S b) (o : Nat) (vs : List Value) : Keep S a (w.setCells b o vs) := by
  induction vs generalizing o w with
  | nil => exact h
  | cons v r ih => exact ih (h.setCell (p := ⟨b, o, none⟩) hb v) _
theorem Fr.write {w W : World} {e : Nat × Nat} {f s : List Nat} (h : Fr w e f W) (hf : f.length = 256) {off : Nat} (hs : off + s.length ≤ 256) : Fr w e (splice8 f off s) (W.setCells e.1 off (s.map enc8)) := by
  obtain ⟨sp, h1⟩ := h.o
  refine ⟨⟨sp, ?_⟩, h.c1, h.c2⟩
  have h2 := h1.setSeg off (s.map enc8) (by rw [List.length_append, List.length_map, List.length_map]; omega)
  have e1 : (f.map enc8 ++ sp).take off ++ s.map enc8 ++ (f.map enc8 ++ sp).drop (off + (s.map enc8).length) = (splice8 f off s).map enc8 ++ sp := by
    unfold splice8
    rw [List.length_map, List.take_append_of_le_length (by rw [List.length_map]; omega), List.drop_append_of_le_length (by rw [List.length_map]; omega)]
    simp only [List.map_append, List.map_take, List.map_drop, List.append_assoc]
  rw [e1] at h2
  exact h2
theorem Fr.row {w W : World} {e : Nat × Nat} {f : List Nat} (h : Fr w e f W) (hf : f.length = 256) : Row W enc8 (entV e) f := by
  obtain ⟨sp, h1⟩ := h.o
  refine .inr ⟨⟨e.1, 0, none⟩, e.2, by rw [hf]; rfl, ?_, fun j x hx => ?_⟩
  · first | (rw [hf]; exact h.c1) | exact h.c1 | omega
  · rw [add_off]
    refine h1.cell ?_
    rw [Nat.zero_add, List.getElem?_append_left (by rw [List.length_map]; exact (List.getElem?_eq_some_iff.1 hx).1), List.getElem?_map, hx]
    rfl
/-- The store, its bytes l; the mirror, its frames those of lm; all of the call's own. -/
structure Pt (w : World) (p q nb : Nat) (mv : Value) (k : Nat) (l lm : List Nat) (W : World) : Prop where
  os : Os w p q l W
  ll : l.length = 256 * k
  lml : lm.length = 256 * k
  pl : p < nb
  ql : q < nb
  wn : w.heap.size ≤ nb
  m : k = 0 ∨ ∃ (mb cap : Nat) (es : List (Nat × Nat)), mv = .slice (some ⟨mb, 0, none⟩) k cap ∧ es.length = k ∧ nb ≤ mb ∧ (∀ e ∈ es, nb ≤ e.1 ∧ e.1 ≠ mb) ∧ es.Pairwise (fun a b : Nat × Nat => a.1 ≠ b.1) ∧
    (∃ sp, Own w mb (es.map entV ++ sp) 27 W) ∧ ∀ i e, es[i]? = some e → Fr w e (frm lm i) W
theorem Pt.keep {S : Nat → Prop} {w W W' : World} {p q nb k : Nat} {mv : Value} {l l' lm : List Nat} (h : Pt w p q nb mv k l lm W) (kp : Keep S W W') (hs : ∀ i, nb ≤ i → ¬ S i) (h0 : ∀ i, i < w.heap.size → ¬ S i) (os : Os w p q l' W') (ll : l'.length = 256 * k) : Pt w p q nb mv k l' lm W' := by
  refine ⟨os, ll, h.lml, h.pl, h.ql, h.wn, ?_⟩
  rcases h.m with h1 | ⟨mb, cap, es, e1, e2, e3, e4, e5, ⟨sp, e6⟩, e7⟩
  · exact .inl h1
  · exact .inr ⟨mb, cap, es, e1, e2, e3, e4, e5, ⟨sp, e6.keep kp (hs mb e3) h0⟩, fun i e he => (e7 i e he).keep kp (hs _ (e4 e (List.mem_of_getElem? he)).1) h0⟩
theorem Pt.step {w W W' : World} {p q nb k : Nat} {mv : Value} {l lm : List Nat} (h : Pt w p q nb mv k l lm W) (b : Below W.heap.size W W') : Pt w p q nb mv k l lm W' :=
  h.keep (S := fun _ => False) (Keep.of_below b) (fun _ _ h => h) (fun _ _ h => h) (h.os.step b) h.ll
theorem Pt.su {w W W' : World} {p q nb k : Nat} {mv : Value} {l l' lm : List Nat} (h : Pt w p q nb mv k l lm W) (u : Su p q l' W W') (ll : l'.length = 256 * k) : Pt w p q nb mv k l' lm W' :=
  h.keep u.k (fun i hi e => by have := h.ql; omega) (fun i hi e => by have := h.os.n; omega) (h.os.su u) ll
/-- An entry of the mirror, and what may be done to it. -/
theorem Pt.open {w W : World} {p q nb k : Nat} {mv : Value} {l lm : List Nat} (h : Pt w p q nb mv k l lm W) {i : Nat} (hi : i < k) :
    ∃ (mb cap g c : Nat), mv = .slice (some ⟨mb, 0, none⟩) k cap ∧ mb < W.heap.size ∧ W.cell? ⟨mb, i, none⟩ = some (.slice (some ⟨g, 0, none⟩) 256 c) ∧ W.frozen? ⟨mb, i, none⟩ = false ∧ Fr w (g, c) (frm lm i) W ∧
      (∀ (off : Nat) (s : List Nat), off + s.length ≤ 256 → Pt w p q nb mv k l (splice8 lm (256 * i + off) s) (W.setCells g off (s.map enc8))) ∧
      (∀ (W1 : World) (g1 c1 : Nat) (f : List Nat), Below W.heap.size W W1 → W.heap.size ≤ g1 → Fr w (g1, c1) f W1 → f.length = 256 → Pt w p q nb mv k l (splice8 lm (256 * i + 0) f) (W1.setCell ⟨mb, i, none⟩ (.slice (some ⟨g1, 0, none⟩) 256 c1))) := by
  rcases h.m with h1 | ⟨mb, cap, es, e1, e2, e3, e4, e5, ⟨sp, e6⟩, e7⟩
  · omega
  · obtain ⟨e, he⟩ : ∃ e, es[i]? = some e := ⟨_, List.getElem?_eq_getElem (by omega)⟩
    obtain ⟨g, c⟩ := e
    have hF := e7 i _ he
    have hge := e4 _ (List.mem_of_getElem? he)
    have hd : ∀ j e, es[j]? = some e → j ≠ i → e.1 ≠ g := fun j e hj hne hh => by
      have hli := (List.getElem?_eq_some_iff.1 he)
      have hlj := (List.getElem?_eq_some_iff.1 hj)
      have hp := List.pairwise_iff_getElem.1 e5
      rcases Nat.lt_or_ge i j with h1 | h1
      · have := hp i j hli.1 hlj.1 h1
        rw [hli.2, hlj.2] at this
        exact this hh.symm
      · have := hp j i hlj.1 hli.1 (by omega)
        rw [hli.2, hlj.2] at this
        exact this hh
    have hli : i < (es.map entV).length := by rw [List.length_map]; omega
    refine ⟨mb, cap, g, c, e1, e6.lt, e6.cell (by rw [List.getElem?_append_left hli, List.getElem?_map, he]; rfl), e6.fro i, hF, fun off s hs => ?_, fun W1 g1 c1 f hb hg hFr hf => ?_⟩
    · have kp : Keep (fun i => i = g) W (W.setCells g off (s.map enc8)) := keep_setCells (S := fun i => i = g) (Keep.refl _ W) (fun _ => rfl) off _
      refine ⟨h.os.setCells (by have := h.pl; omega) (by have := h.ql; omega) (by have := h.wn; omega) off _, h.ll, by rw [splice8_len (by rw [h.lml]; omega), h.lml], h.pl, h.ql, h.wn, .inr ⟨mb, cap, es, e1, e2, e3, e4, e5, ⟨sp, e6.keep kp (fun e => hge.2 e.symm) (fun j hj e => by have := h.wn; omega)⟩, fun j e hj => ?_⟩⟩
      have hjk : j < k := by rw [← e2]; exact (List.getElem?_eq_some_iff.1 hj).1
      rw [frm_splice h.lml hi hs j hjk]
      by_cases hji : j = i
      · subst hji
        rw [he] at hj
        obtain rfl := Option.some.inj hj
        rw [if_pos rfl]
        exact hF.write (frm_len h.lml hi) hs
      · rw [if_neg hji]
        exact (e7 j e hj).keep kp (hd j e hj hji) (fun j hj e => by have := h.wn; omega)
    · have hP := h.step hb
      have hW1 : W.heap.size ≤ W1.heap.size := hb.size
      have hmb : mb < W.heap.size := e6.lt
      have kp : Keep (fun i => i = mb) W1 (W1.setCell ⟨mb, i, none⟩ (.slice (some ⟨g1, 0, none⟩) 256 c1)) := Keep.setCell (S := fun i => i = mb) (Keep.refl _ W1) (p := ⟨mb, i, none⟩) (fun _ => rfl) _
      have hsmall : ∀ j, j < w.heap.size → ¬ (j = mb) := fun j hj e => by have := h.wn; omega
      have hos : Os w p q l (W1.setCell ⟨mb, i, none⟩ (.slice (some ⟨g1, 0, none⟩) 256 c1)) := (hP.os).setCells (b := mb) (by have := h.pl; omega) (by have := h.ql; omega) (by have := h.wn; omega) i [.slice (some ⟨g1, 0, none⟩) 256 c1]
      refine ⟨hos, h.ll, by rw [splice8_len (by rw [h.lml]; omega), h.lml], h.pl, h.ql, h.wn, .inr ⟨mb, cap, es.set i (g1, c1), e1, by rw [List.length_set, e2], e3, fun e hm => ?_, ?_, ⟨sp, ?_⟩, fun j e hj => ?_⟩⟩
      · rcases List.mem_or_eq_of_mem_set hm with h1 | rfl
        · exact e4 e h1
        · exact ⟨by have := h.wn; simp; omega, by simp; omega⟩
      · refine List.pairwise_iff_getElem.2 fun a b ha hb' hab => ?_
        have ha2 : a < es.length := by simpa using ha
        have hb2 : b < es.length := by simpa using hb'
        have hfa := (e7 a _ (List.getElem?_eq_getElem ha2)).lt
        have hfb := (e7 b _ (List.getElem?_eq_getElem hb2)).lt
        rw [List.getElem_set, List.getElem_set]
        split <;> split
        · omega
        · simp only; omega
        · simp only; omega
        · exact List.pairwise_iff_getElem.1 e5 a b ha2 hb2 hab
      · have h2 := (e6.step hb).set i (.slice (some ⟨g1, 0, none⟩) 256 c1)
        rw [List.set_append_left _ _ hli] at h2
        rw [List.map_set]
        exact h2
      · have hjk : j < k := by rw [← e2]; have := (List.getElem?_eq_some_iff.1 hj).1; simpa using this
        rw [frm_splice h.lml hi (by omega) j hjk]
        by_cases hji : j = i
        · subst hji
          rw [List.getElem?_set_self (by omega)] at hj
          obtain rfl := Option.some.inj hj
          rw [if_pos rfl, splice_all (frm_len h.lml hi) hf]
          exact hFr.keep kp (by simp; omega) hsmall
        · rw [if_neg hji]
          rw [List.getElem?_set_ne (fun h => hji h.symm)] at hj
          exact ((e7 j e hj).step hb).keep kp (e4 e (List.mem_of_getElem? hj)).2 hsmall
theorem Pt.openB {w W : World} {p q nb k : Nat} {mv : Value} {l lm : List Nat} (h : Pt w p q nb mv k l lm W) {i : Nat} (hi : i < k) :
    ∃ (mb cap g c : Nat), mv = .slice (some ⟨mb, 0, none⟩) k cap ∧ 256 ≤ c ∧ c ≤ maxLen ∧ ∀ W', Below W.heap.size W W' → W'.cell? ⟨mb, i, none⟩ = some (.slice (some ⟨g, 0, none⟩) 256 c) ∧ W'.frozen? ⟨mb, i, none⟩ = false ∧ Fr w (g, c) (frm lm i) W' ∧
      (∀ (off : Nat) (s : List Nat), off + s.length ≤ 256 → Pt w p q nb mv k l (splice8 lm (256 * i + off) s) (W'.setCells g off (s.map enc8))) ∧
      (∀ (W1 : World) (g1 c1 : Nat) (f : List Nat), Below W'.heap.size W' W1 → W'.heap.size ≤ g1 → Fr w (g1, c1) f W1 → f.length = 256 → Pt w p q nb mv k l (splice8 lm (256 * i + 0) f) (W1.setCell ⟨mb, i, none⟩ (.slice (some ⟨g1, 0, none⟩) 256 c1))) := by
  obtain ⟨mb, cap, g, c, e1, e0, e2, e3, e4, _, _⟩ := h.open hi
  refine ⟨mb, cap, g, c, e1, e4.c1, e4.c2, fun W' hb => ?_⟩
  obtain ⟨mb', cap', g', c', f1, f0, f2, f3, f4, f5, f6⟩ := (h.step hb).open hi
  rw [e1] at f1
  simp only [Value.slice.injEq, Option.some.injEq, Addr.mk.injEq, and_true, true_and] at f1
  obtain ⟨rfl, rfl⟩ := f1
  have hc : W'.cell? ⟨mb, i, none⟩ = W.cell? ⟨mb, i, none⟩ := hb.cell (p := ⟨mb, i, none⟩) e0
  rw [hc, e2] at f2
  simp only [Option.some.injEq, Value.slice.injEq, Addr.mk.injEq, and_true, true_and] at f2
  obtain ⟨rfl, rfl⟩ := f2
  exact ⟨by rw [hc, e2], f3, f4, f5, f6⟩
/-- The mirror while it is built. -/
structure Bd (w : World) (p q nb : Nat) (mv : Value) (es : List (Nat × Nat)) (l : List Nat) (W : World) : Prop where
  os : Os w p q l W
  x : W.ownsRow nb 27 1 mv es.length (es.map entV)
  f : ∀ e ∈ es, Fr w e (List.replicate 256 0) W ∧ nb ≤ e.1 ∧ mv.ownBlock ≠ some e.1
  d : es.Pairwise (fun a b : Nat × Nat => a.1 ≠ b.1)
  pl : p < nb
  ql : q < nb
  wn : w.heap.size ≤ nb
  le : nb ≤ W.heap.size
theorem Bd.pt {w W : World} {p q nb k : Nat} {mv : Value} {es : List (Nat × Nat)} (h : Bd w p q nb mv es (List.replicate (256 * k) 0) W) (hk : es.length = k) : Pt w p q nb mv k (List.replicate (256 * k) 0) (List.replicate (256 * k) 0) W := by
  refine ⟨h.os, by rw [List.length_replicate], by rw [List.length_replicate], h.pl, h.ql, h.wn, ?_⟩
  by_cases h0 : k = 0
  · exact .inl h0
  · obtain ⟨g, cap, sp, hv, hg, _, _, hb⟩ := sl_form h.x (by omega)
    refine .inr ⟨g, cap, es, by rw [hv, hk], hk, hg, fun e he => ⟨(h.f e he).2.1, fun hh => (h.f e he).2.2 (by rw [hv, hh]; rfl)⟩, h.d, ⟨sp, ⟨h.os.bel, by have := h.wn; omega, hb⟩⟩, fun i e he => ?_⟩
    rw [frm_rep k i (by rw [← hk]; exact (List.getElem?_eq_some_iff.1 he).1)]
    exact (h.f e (List.mem_of_getElem? he)).1
theorem Bd.grow {w W W1 W2 W3 : World} {p q nb : Nat} {mv mv' : Value} {es : List (Nat × Nat)} {l : List Nat} (h : Bd w p q nb mv es l W) (hb : Below W.heap.size W W1) (hs : W1.heap.size = W.heap.size + 1) (hblk : Blk W1 W.heap.size ((List.replicate 256 0).map enc8) 5)
    (h2 : Below W1.heap.size W1 W2) (h2s : W1.heap.size < W2.heap.size) (hx : W3.ownsRow nb 27 1 mv' (es.length + 1) (es.map entV ++ [entV (W.heap.size, 256)])) (hg : W2.grownBy W3 mv.ownBlock) (hat : ∀ g, mv'.ownBlock = some g → mv.ownBlock = some g ∨ g = W2.heap.size) :
    Bd w p q nb mv' (es ++ [(W.heap.size, 256)]) l W3 := by
  have hk := keep_grown hg
  have hge := own_ge h.x
  have b12 : Below W.heap.size W W2 := hb.trans (h2.mono hb.size)
  have hno : mv.ownBlock ≠ some W.heap.size := fun e => by
    have := (World.ownsRow.lt h.x _ e).2
    omega
  have small : ∀ i, i < w.heap.size → ¬ (mv.ownBlock = some i) := fun i hi e => by have := hge i e; have := h.wn; omega
  refine ⟨?_, by rw [List.length_append, List.map_append]; exact hx, fun e he => ?_, ?_, h.pl, h.ql, h.wn, Nat.le_trans h.le (Nat.le_trans b12.size hk.size)⟩
  · exact (h.os.step b12).keep hk (fun e => by have := hge p e; have := h.pl; omega) (fun e => by have := hge q e; have := h.ql; omega) small
  · rcases List.mem_append.1 he with h1 | h1
    · obtain ⟨a1, a2, a3⟩ := h.f e h1
      refine ⟨(a1.step b12).keep hk a3 small, a2, fun hh => ?_⟩
      rcases hat _ hh with h3 | h3
      · exact a3 h3
      · have := a1.lt; have := b12.size; omega
    · rw [List.mem_singleton] at h1
      subst h1
      refine ⟨⟨⟨[], ?_⟩, by simp, by simp [maxLen]⟩, h.le, fun hh => ?_⟩
      · rw [List.append_nil]
        have o1 : Own w W.heap.size ((List.replicate 256 0).map enc8) 5 W1 := ⟨h.os.bel.trans (hb.mono h.os.bel.size), h.os.bel.size, hblk⟩
        exact (o1.step h2).keep hk hno small
      · rcases hat _ hh with h3 | h3
        · exact hno h3
        · have : W.heap.size = W2.heap.size := h3
          omega
  · rw [List.pairwise_append]
    refine ⟨h.d, by simp, fun a ha b hb' => ?_⟩
    rw [List.mem_singleton] at hb'
    subst hb'
    have := (h.f a ha).1.lt
    simp only
    omega
def acSh : Sh := .seq (.int .u8) (.seq (.int .i64) (.seq (.int .i64) (.seq (.slice (.int .u8)) (.seq (.int .u64) .nil))))
theorem act_of {w : World} {s : List Value} (h : Fits w acSh s) : ∃ (a : Nat) (fr off : Int) (pv : Value) (pl : List Nat) (u : Nat), s = [.int .u8 (a : Int), .int .i64 fr, .int .i64 off, pv, .int .u64 (u : Int)] ∧ a < 256 ∧ Row w enc8 pv pl ∧ (∀ x ∈ pl, x < 256) ∧ pl.length ≤ maxLen := by
  obtain ⟨_, _, rfl, ⟨a1, rfl, w1⟩, _, _, rfl, ⟨a2, rfl, w2⟩, _, _, rfl, ⟨a3, rfl, w3⟩, xs, _, rfl, h4, _, _, rfl, ⟨a5, rfl, w5⟩, h9⟩ := h
  simp only [Fits] at h9
  subst h9
  obtain ⟨v, rfl⟩ : ∃ v, xs = [v] := by rcases h4 with rfl | ⟨a, l, c, _, rfl, _⟩ <;> exact ⟨_, rfl⟩
  obtain ⟨pl, hr, hb, hm⟩ := bytes_row h4
  obtain ⟨a, rfl, ha⟩ := Bits.wf_u8 w1
  obtain ⟨u, rfl⟩ : ∃ u : Nat, a5 = (u : Int) := Int.eq_ofNat_of_zero_le (by simp [Lit.wf, IntKind.min, IntKind.max, IntKind.signed, IntKind.bits] at w5; omega)
  exact ⟨a, a2, a3, v, pl, u, rfl, ha, hr, hb, hm⟩
theorem size_act : (Try.prog.info? 30).map (·.size) = some 5 := by kernel_rfl
theorem sl_info : ∃ i, Try.prog.info? 27 = some i ∧ i.zero = some (.slice none 0 0) ∧ i.size = 1 ∧ i.bytes = 24 := by
  have h : (Try.prog.info? 27).map (fun i => (i.zero, i.size, i.bytes)) = some (some (.slice none 0 0), 1, 24) := by kernel_rfl
  obtain ⟨i, hi, he⟩ := Option.map_eq_some_iff.1 h
  simp only [Prod.mk.injEq] at he
  exact ⟨i, hi, he.1, he.2.1, he.2.2⟩
theorem built_sl (a : Option Addr) (n c : Nat) : Try.prog.builtSlice 27 1 [(0, .slice a n c)] = some #[.slice a n c] := by kernel_rfl
theorem Pt.kk {w W : World} {p q nb k : Nat} {mv : Value} {l lm : List Nat} (h : Pt w p q nb mv k l lm W) : l.length / 256 = k := by rw [h.ll]; omega
theorem Pt.frames {w W : World} {p q nb k : Nat} {mv : Value} {l lm : List Nat} (h : Pt w p q nb mv k l lm W) : ∀ W', Below W.heap.size W W' → Calls Try.prog 15 #[.pointer (some ⟨p, 0, none⟩)] W' fun e w' => e = .returned (.int .i64 (k : Int)) ∧ W' = w' := fun W' hb => by
  have := frames_calls (h.os.step hb).k
  rw [h.kk] at this
  exact this
theorem Pt.same {w W : World} {p q nb k : Nat} {mv : Value} {l lm : List Nat} (h : Pt w p q nb mv k l lm W) {e : Ending} {n : Int} {W' : World} (hk : e = .returned (.int .i64 n) ∧ Below W.heap.size W W') : e = .returned (.int .i64 n) ∧ Pt w p q nb mv k l lm W' := ⟨hk.1, h.step hk.2⟩
theorem write_yes {w W : World} {p q nb k : Nat} {mv : Value} {l lm : List Nat} (h : Pt w p q nb mv k l lm W) {i o : Nat} {v : Value} {s : List Nat} (hr : Row W enc8 v s) (hs : ∀ x ∈ s, x < 256) (hi : i < k) (ho : o ≤ 256) (hn : s.length ≤ 256 - o) :
    Calls Try.prog 13 #[.pointer (some ⟨p, 0, none⟩), .int .i64 (i : Int), .int .i64 (o : Int), v] W fun e W' => e = .returned (.int .i64 0) ∧ Pt w p q nb mv k (splice8 l (256 * i + o) s) lm W' ∧ Keep (fun i => i = q) W W' :=
  (write_calls h.os.k i o v s hr hs (by rw [h.kk]; exact hi) ho hn).mono fun e W' hk => ⟨hk.1, h.su hk.2 (by rw [splice8_len (by rw [h.ll]; omega), h.ll]), hk.2.k⟩
theorem write_no {w W : World} {p q nb k : Nat} {mv : Value} {l lm : List Nat} (h : Pt w p q nb mv k l lm W) (h4 : k ≤ 4) {fr off : Int} {v : Value} {s : List Nat} (hr : Row W enc8 v s) (hno : ¬ (0 ≤ fr ∧ fr < k ∧ 0 ≤ off ∧ off ≤ 256 ∧ (s.length : Int) ≤ 256 - off)) :
    Calls Try.prog 13 #[.pointer (some ⟨p, 0, none⟩), .int .i64 fr, .int .i64 off, v] W fun e W' => e = .returned (.int .i64 1) ∧ Pt w p q nb mv k l lm W' := by
  obtain ⟨a, cap, rfl⟩ := hr.form
  refine (write_bad (.pointer (some ⟨p, 0, none⟩)) k (by omega) fr off a s.length cap W (h.frames W (Below.refl _ _)) (by rw [atOk_iff]; omega)).mono fun e W' hk => ?_
  obtain ⟨h1, rfl⟩ := hk
  exact ⟨h1, h⟩
theorem save_yes {w W : World} {p q nb k : Nat} {mv : Value} {l lm : List Nat} (h : Pt w p q nb mv k l lm W) {i o : Nat} (v : Nat) (hi : i < k) (ho : o < 32) :
    Calls Try.prog 9 #[.pointer (some ⟨p, 0, none⟩), .int .i64 (i : Int), .int .i64 (o : Int), .int .u64 (v : Int)] W fun e W' => e = .returned (.int .i64 0) ∧ Pt w p q nb mv k (splice8 l (256 * i + 8 * o) (leB 8 v)) lm W' ∧ Keep (fun i => i = q) W W' :=
  (save_calls h.os.k i o v (by rw [h.kk]; exact hi) ho).mono fun e W' hk => ⟨hk.1, h.su hk.2 (by rw [splice8_len (by rw [h.ll, leB_length]; omega), h.ll]), hk.2.k⟩
theorem save_no {w W : World} {p q nb k : Nat} {mv : Value} {l lm : List Nat} (h : Pt w p q nb mv k l lm W) (h4 : k ≤ 4) {fr off : Int} (v : Nat) (hno : ¬ (0 ≤ fr ∧ fr < k ∧ 0 ≤ off ∧ off < 32)) :
    Calls Try.prog 9 #[.pointer (some ⟨p, 0, none⟩), .int .i64 fr, .int .i64 off, .int .u64 (v : Int)] W fun e W' => e = .returned (.int .i64 1) ∧ Pt w p q nb mv k l lm W' := by
  by_cases ho : off < 0 ∨ 32 ≤ off
  · refine (save_bad (.pointer (some ⟨p, 0, none⟩)) fr off (v : Int) ho W).mono fun e W' hk => ?_
    first | exact ⟨hk.1, h.step hk.2⟩ | (obtain ⟨h1, rfl⟩ := hk; exact ⟨h1, h⟩)
  · obtain ⟨o, rfl⟩ := Int.eq_ofNat_of_zero_le (show 0 ≤ off by omega)
    refine (save_none (.pointer (some ⟨p, 0, none⟩)) k (by omega) fr o v (by omega) W h.frames (by omega)).mono fun e W' hk => ?_
    first | exact ⟨hk.1, h.step hk.2⟩ | (obtain ⟨h1, rfl⟩ := hk; exact ⟨h1, h⟩)
theorem clear_yes {w W : World} {p q nb k : Nat} {mv : Value} {l lm : List Nat} (h : Pt w p q nb mv k l lm W) {i : Nat} (hi : i < k) :
    Calls Try.prog 11 #[.pointer (some ⟨p, 0, none⟩), .int .i64 (i : Int)] W fun e W' => e = .returned (.int .i64 0) ∧ Pt w p q nb mv k (splice8 l (256 * i + 0) (List.replicate 256 0)) lm W' ∧ Keep (fun i => i = q) W W' :=
  (clear_calls h.os.k i (by rw [h.kk]; exact hi)).mono fun e W' hk => ⟨hk.1, h.su hk.2 (by rw [splice8_len (by rw [h.ll, List.length_replicate]; omega), h.ll]), hk.2.k⟩
theorem clear_no {w W : World} {p q nb k : Nat} {mv : Value} {l lm : List Nat} (h : Pt w p q nb mv k l lm W) (h4 : k ≤ 4) {fr : Int} (hno : ¬ (0 ≤ fr ∧ fr < k)) :
    Calls Try.prog 11 #[.pointer (some ⟨p, 0, none⟩), .int .i64 fr] W fun e W' => e = .returned (.int .i64 1) ∧ Pt w p q nb mv k l lm W' := by
  refine (clear_none (.pointer (some ⟨p, 0, none⟩)) k (by omega) fr W h.frames (by omega)).mono fun e W' hk => ?_
  first | exact ⟨hk.1, h.step hk.2⟩ | (obtain ⟨h1, rfl⟩ := hk; exact ⟨h1, h⟩)
theorem copy_yes {w W : World} {p q nb k : Nat} {mv : Value} {l lm : List Nat} (h : Pt w p q nb mv k l lm W) {i o : Nat} (hi : i < k) (ho : o < k) :
    Calls Try.prog 12 #[.pointer (some ⟨p, 0, none⟩), .int .i64 (i : Int), .int .i64 (o : Int)] W fun e W' => e = .returned (.int .i64 0) ∧ Pt w p q nb mv k (splice8 l (256 * i + 0) (frm l o)) lm W' ∧ Keep (fun i => i = q) W W' :=
  (copy_calls h.os.k i o (by rw [h.kk]; exact hi) (by rw [h.kk]; exact ho)).mono fun e W' hk => ⟨hk.1, h.su hk.2 (by
    show (splice8 l (256 * i + 0) (frm l o)).length = _
    rw [splice8_len (by rw [h.ll, frm_len h.ll ho]; omega), h.ll]), hk.2.k⟩
theorem copy_no {w W : World} {p q nb k : Nat} {mv : Value} {l lm : List Nat} (h : Pt w p q nb mv k l lm W) (h4 : k ≤ 4) {fr off : Int} (hno : ¬ (0 ≤ fr ∧ fr < k ∧ 0 ≤ off ∧ off < k)) :
    Calls Try.prog 12 #[.pointer (some ⟨p, 0, none⟩), .int .i64 fr, .int .i64 off] W fun e W' => e = .returned (.int .i64 1) ∧ Pt w p q nb mv k l lm W' := by
  by_cases ho : off < 0 ∨ (k : Int) ≤ off
  · refine (copy_none (.pointer (some ⟨p, 0, none⟩)) k (by omega) fr off W (h.frames W (Below.refl _ _)) ho).mono fun e W' hk => ?_
    first | exact ⟨hk.1, h.step hk.2⟩ | (obtain ⟨h1, rfl⟩ := hk; exact ⟨h1, h⟩)
  · obtain ⟨o, rfl⟩ := Int.eq_ofNat_of_zero_le (show 0 ≤ off by omega)
    refine (copy_to_none h.os.k fr o (by rw [h.kk]; omega) (by rw [h.kk]; omega)).mono fun e W' hk => ?_
    exact ⟨hk.1, h.step hk.2⟩
theorem Fr.there {w W : World} {e : Nat × Nat} {f : List Nat} (h : Fr w e f W) (hf : f.length = 256) {j : Nat} (hj : j < 256) : (W.cell? ⟨e.1, j, none⟩).isSome = true ∧ W.frozen? ⟨e.1, j, none⟩ = false := by
  obtain ⟨sp, h1⟩ := h.o
  have hl : j < (f.map enc8 ++ sp).length := by rw [List.length_append, List.length_map]; omega
  exact ⟨by rw [h1.cell (List.getElem?_eq_getElem hl)]; rfl, h1.fro j⟩
structure Sc (na : Nat) (x : Nat) (w' : World) : Prop where
  c : w'.cell? ⟨na, 1, none⟩ = some (.int .i64 (x : Int))
structure Sd (na : Nat) (x o : Nat) (w' : World) : Prop where
  c : w'.cell? ⟨na, 1, none⟩ = some (.int .i64 (x : Int))
  d : w'.cell? ⟨na, 2, none⟩ = some (.int .i64 (o : Int))
theorem Pt.mblt {w W : World} {p q nb k mb cap : Nat} {mv : Value} {l lm : List Nat} (h : Pt w p q nb mv k l lm W) (hv : mv = .slice (some ⟨mb, 0, none⟩) k cap) (hk : k ≠ 0) : w.heap.size ≤ mb ∧ mb < W.heap.size := by
  rcases h.m with h1 | ⟨mb', cap', es, e1, e2, e3, e4, e5, ⟨sp, e6⟩, e7⟩
  · exact absurd h1 hk
  · rw [hv] at e1
    simp only [Value.slice.injEq, Option.some.injEq, Addr.mk.injEq, and_true, true_and] at e1
    rw [e1.1]
    exact ⟨by have := h.wn; omega, e6.lt⟩
structure Se (na mb x o u g c : Nat) (w' : World) : Prop where
  c1 : w'.cell? ⟨na, 1, none⟩ = some (.int .i64 (x : Int))
  c2 : w'.cell? ⟨na, 2, none⟩ = some (.int .i64 (o : Int))
  c4 : w'.cell? ⟨na, 4, none⟩ = some (.int .u64 (u : Int))
  m : w'.cell? ⟨mb, x, none⟩ = some (.slice (some ⟨g, 0, none⟩) 256 c)
theorem step_copy_any {P : Program} {w : World} {ops : Array Oper} {o : Oper} {a : Act} {K : Act → World → Prop} {Q : Exit → Act → World → Prop} {E : Prop} (hgd : o.guard = none) (d s : Operand) (dT sT : TypeId)
    (ho : o.op = .call { callee := .builtin .copy, args := #[d, s], argTypes := #[dT, sT] }) (elem : TypeId) (hu : P.underlying dT = some (.slice elem)) (hsz : (P.info? elem).map (·.size) = some 1)
    (g off dLen dCap : Nat) (ad : Addr) (sLen sCap : Nat) (hd : a.eval d = .slice (some ⟨g, off, none⟩) dLen dCap) (hs : a.eval s = .slice (some ad) sLen sCap) (cs : List Value) (hn : cs.length = Nat.min sLen dLen)
    (hsrc : ∀ j v, cs[j]? = some v → w.cell? (ad.add j) = some v) (hc : ∀ j, j < cs.length → (w.cell? ⟨g, off + j, none⟩).isSome = true) (hf : ∀ j, j < cs.length → w.frozen? ⟨g, off + j, none⟩ = false) (h1 : ∀ v ∈ cs, v.oneCell' = true)
    (h : K (a.put o.dst (goInt cs.length)) (w.setCells g off cs)) : if Region.wanted o (yielded ops a.tmps) = true then Oper.wp P o a w K Q else E := by
  have hw : Region.wanted o (yielded ops a.tmps) = true := by simp [Region.wanted, hgd]
  rw [if_pos hw]
  have hrun := run_copy_cells (P := P) w dT sT o.type elem g off dLen dCap ad sLen sCap cs hu hsz hn hsrc hc hf h1
  unfold Oper.wp
  simp [execOp, ho, resolve, invoke, builtin, hd, hs, hrun, Result.andThen]
  exact h
theorem Fr.byteAt {w W : World} {g c : Nat} {f : List Nat} (h : Fr w (g, c) f W) (hf : f.length = 256) {j : Nat} (hj : j < 256) : ∃ y : Int, W.cell? ⟨g, j, none⟩ = some (.int .u8 y) := by
  obtain ⟨sp, h1⟩ := h.o
  refine ⟨((f[j]'(by omega) : Nat) : Int), h1.cell ?_⟩
  rw [List.getElem?_append_left (by rw [List.length_map]; omega), List.getElem?_map, List.getElem?_eq_getElem (by omega)]
  rfl
theorem Fr.apart {w W : World} {g c na mb x c' : Nat} {f : List Nat} {y : Int} {a : Option Addr} {n : Nat} (h : Fr w (g, c) f W) (hf : f.length = 256) (hx : x < 256) (h1 : W.cell? ⟨na, 1, none⟩ = some (.int .i64 y)) (h2 : W.cell? ⟨mb, x, none⟩ = some (.slice a n c')) : g ≠ na ∧ g ≠ mb ∧ w.heap.size ≤ g := by
  refine ⟨fun e => ?_, fun e => ?_, ?_⟩
  · obtain ⟨z, hz⟩ := h.byteAt hf (j := 1) (by omega)
    rw [e, h1] at hz
    cases hz
  · obtain ⟨z, hz⟩ := h.byteAt hf (j := x) hx
    rw [e, h2] at hz
    cases hz
  · obtain ⟨sp, h3⟩ := h.o
    exact h3.n
theorem enc8_one : ∀ x : Nat, (enc8 x).oneCell' = true := fun _ => rfl
theorem read_frm {w W : World} {p q nb k : Nat} {mv : Value} {l lm : List Nat} (h : Pt w p q nb mv k l lm W) {f : Nat} (hf : f < k) :
    Calls Try.prog 14 #[.pointer (some ⟨p, 0, none⟩), .int .i64 (f : Int), .int .i64 0, .int .i64 256] W (ReadP W (frm l f)) := by
  have h1 := read_calls h.os.k f 0 256 (by rw [h.kk]; exact hf) (by omega) (by omega)
  exact h1
set_option maxRecDepth 8000 in
set_option maxHeartbeats 16000000 in
theorem storePlays_walk (a0 : Int) (v1 : Value) (w : World) (w0 : (Lit.int .u8 a0).wf = true) (f1 : Fits w (.slice acSh) [v1]) :
    Calls Try.prog 3 #[.int .u8 a0, v1] w fun e w' => e = .returned (.bool true) ∧ Below w.heap.size w w' := by
  obtain ⟨n, rfl, hn⟩ := Bits.wf_u8 w0
  obtain ⟨av, cp, segs, rfl, hcap, hmx, hfit, hat⟩ := rowS_of f1 (by decide)
  have hmx' : segs.length ≤ 9223372036854775807 := by unfold maxLen at hmx; omega
  have HF := Lib.hid hfit
  have HA := Lib.hid hat
  obtain ⟨k, hk⟩ : ∃ k, n % 5 = k := ⟨_, rfl⟩
  have hki : (n : Int) % 5 = (k : Int) := by omega
  have K4 := Lib.hid (show k ≤ 4 by omega)
  have hk0 : 0 ≤ (k : Int) := by omega
  have hk4 : (k : Int) ≤ 4 := by omega
  have HN := Lib.hid (new_calls (k : Int))
  rw [show 256 * (min (max (k : Int) 0) 512).toNat = 256 * k by omega] at HN
  clear w0 f1 hmx hcap hfit hat hn hk
  go_enter Try.func3, Try.ntmps3
  go_wp2_with fail
  refine (awake_calls _).mono ?_
  rintro e w1 ⟨rfl, u1⟩
  have B1 := Lib.hid u1
  clear u1
  by_cases h50 : 50 < segs.length
  · have hd : decide (50 < (segs.length : Int)) = true := decide_eq_true (by omega)
    go_wp2_with fail
    refine (awake_calls _).mono ?_
    rintro e w2 ⟨rfl, u1⟩
    have B2 := Lib.hid (B1.out.trans (u1.mono B1.out.size))
    clear u1 B1
    go_wp2_with fail
    go_ret
    exact ⟨rfl, B2.out⟩
  · have hd : decide (50 < (segs.length : Int)) = false := decide_eq_false (by omega)
    go_upto_region 5 with (go_at_call 8; refine (HN.out _).mono ?_; rintro e w2 ⟨rfl, k1, b1⟩; have S2 := Lib.hid (Os.new B1.out k1 b1); have PQ := Lib.hid (show w1.heap.size + 1 < w2.heap.size from k1.plt); clear k1 b1)
    have BD := Lib.hid (show Bd w (w1.heap.size + 1) w1.heap.size w2.heap.size (.slice none 0 0) [] (List.replicate (256 * k) 0) w2 from ⟨S2.out, World.ownsRow_nil _ _ _ _, by simp, by simp, PQ.out, by have := PQ.out; omega, S2.out.bel.size, Nat.le_refl _⟩)
    clear B1 S2 PQ HN h50 hd
    generalize w1.heap.size + 1 = sp at *
    generalize w1.heap.size = sq at *
    generalize w2.heap.size = nb at *
    go_upto_region 7 with (fail)
    go_loopw [7, 8] (fun mv iv wr => ∃ (i : Nat) (es : List (Nat × Nat)) (a : Option Addr) (c : Nat), i ≤ k ∧ es.length = i ∧ iv = .int .i64 i ∧ mv = .slice a i c ∧ Bd w sp sq nb (.slice a i c) es (List.replicate (256 * k) 0) wr) (fun _ iv _ => k - (intOf iv).toNat)
    case atStart => exact ⟨0, [], none, 0, Nat.zero_le _, rfl, rfl, rfl, BD.out⟩
    case round =>
      obtain ⟨i, es, a, c, hi, hel, rfl, rfl, hbd⟩ := hrel
      have BD2 := Lib.hid hbd
      clear hbd BD
      have hi0 : 0 ≤ (i : Int) := by omega
      by_cases hlt : i < k
      · have hii : (i : Int) < (k : Int) := by omega
        as_aux_lemma =>
          obtain ⟨w5, hm, hs5, hb5, hbl5⟩ := make_bytes wr 256 (by omega)
          have hm0 : (Instr.makeSlice 27 (.int .i64 256) (.int .i64 256)).run Try.prog wr = .ok (.slice (some ⟨wr.heap.size, 0, none⟩) 256 256) w5 := hm
          have HB5 := Lib.hid hb5
          have HL5 := Lib.hid hbl5
          have HS5 := Lib.hid hs5
          obtain ⟨ii, hii2, hz5, hs6, hb6⟩ := sl_info
          have HI := Lib.hid hii2
          have HZ := Lib.hid hz5
          have HSz := Lib.hid hs6
          have HBy := Lib.hid hb6
          clear hm hs5 hb5 hbl5 hii2 hz5 hs6 hb6
          have NW := Lib.hid (fun W : World => news_blk (cs := [.slice (some ⟨wr.heap.size, 0, none⟩) 256 256]) (sp := []) (by rw [List.append_nil]; exact Blk.new W #[.slice (some ⟨wr.heap.size, 0, none⟩) 256 256] 27))
          have XO := Lib.hid (show w5.ownsRow nb 27 1 (.slice a i c) i (es.map entV) from by have h := sl_below BD2.out.x HL5.out; rw [hel] at h; exact h)
          have I4 := Lib.hid (show i ≤ 4 from by have := K4.out; omega)
          have LE := Lib.hid (show nb ≤ w5.heap.size from Nat.le_trans BD2.out.le HL5.out.size)
          go_wp2_with (first | ((with_reducible refine bslice_gate (37) ?_); refine Go.Great.wpList_buildSliceTo rfl 26 27 1 _ rfl w5.heap.size rfl (some 37) rfl Try.underlying26 #[.slice (some ⟨wr.heap.size, 0, none⟩) 256 256] (by rw [Array.toList_map]; exact built_sl _ _ _) ?_) | (at_builtin; refine wpList_append_lies _ (by rfl) (.tmp 35) (.tmp 37) _ (by rfl) nb 27 ii _ 1 24 Try.underlying26 HI.out HZ.out HSz.out HBy.out (by rfl) (by omega) (.slice a i c) i _ (by rfl) (sl_below XO.out ((Below.refl _ _).alloc (Nat.le_refl _) _)) ⟨w5.heap.size, 0, none⟩ 1 1 [.slice (some ⟨wr.heap.size, 0, none⟩) 256 256] (by rfl) (by rfl) (NW.out _) (by simp [Value.oneCell']) (by omega) (by have := I4.out; unfold maxLen; omega) (by have := I4.out; omega) (Nat.le_trans LE.out (by simp)) _ rfl ?_; intro g8 c8 w8 h8 k8 o8 l8))
          have B9 := Lib.hid (BD2.out.grow (mv' := .slice (some ⟨g8, 0, none⟩) (i + 1) c8) (W3 := w8) HL5.out HS5.out HB5.out ((Below.refl w5.heap.size w5).alloc (Nat.le_refl _) (.cells #[.slice (some ⟨wr.heap.size, 0, none⟩) 256 256] 27)) (by simp) (by rw [hel]; exact h8) k8 (fun g hg => by
            have e : g8 = g := by injection hg
            rw [← e]; exact o8))
          clear h8 k8 o8 l8 HB5 HL5 HS5 XO BD2
          go_roundw
          case rel => exact ⟨i + 1, es ++ [(wr.heap.size, 256)], some ⟨g8, 0, none⟩, c8, by omega, by rw [List.length_append, hel]; rfl, by go_num, by rfl, B9.out⟩
          case measure => simp [intOf]; omega
      · have hii : ¬ (i : Int) < (k : Int) := by omega
        have eik : i = k := by omega
        rw [eik] at hel BD2
        rw [eik]
        have P0 := Lib.hid (BD2.out.pt hel)
        clear BD2 hel eik hi0 hii hlt hi
        go_upto_region 11 with (fail)
        generalize hmv : (Value.slice a k c) = mv at *
        clear hmv
        go_loopw [9] (fun iv wr => ∃ (i : Nat) (l : List Nat), i ≤ segs.length ∧ iv = .int .i64 i ∧ Pt w sp sq nb mv k l l wr) (fun iv _ => segs.length - (intOf iv).toNat)
        case atStart => exact ⟨0, _, Nat.zero_le _, rfl, P0.out⟩
        case round =>
          obtain ⟨i, l, hi, rfl, hp⟩ := hrel
          have P1 := Lib.hid hp
          clear hp P0
          by_cases hlt : i < segs.length
          · have hii : (i : Int) < (segs.length : Int) := by omega
            have hi0 : 0 ≤ (i : Int) := by omega
            obtain ⟨s, hs⟩ : ∃ s, segs[i]? = some s := ⟨_, List.getElem?_eq_getElem hlt⟩
            obtain ⟨ka, fr, off, pv, pl, u, rfl, hka, hrow, hpb, hpm⟩ := act_of (HF.out s (List.mem_of_getElem? hs))
            obtain ⟨b, ofs, hav, hr⟩ := HA.out i _ hs
            have HR := Lib.hid (hr _ P1.out.os.bel)
            have RP := Lib.hid (fun (W : World) (h : Below w.heap.size w W) => hrow.below h)
            have PB := Lib.hid hpb
            obtain ⟨pa, pc, hpv⟩ := hrow.form
            have hpm2 : (pl.length : Int) ≤ 9223372036854775807 := by unfold maxLen at hpm; omega
            clear hr hs HF HA hrow hpb hpm
            subst hpv
            rw [hav]
            have I5 := Lib.hid size_act
            obtain ⟨kk, hkk, kk0, kk5⟩ : ∃ q : Int, (ka : Int) % 5 = q ∧ 0 ≤ q ∧ q < 5 := ⟨_, rfl, by omega, by omega⟩
            go_upto_region 14 with ((with_reducible refine load_gate (30) (47) ?_); refine wpList_load_mid rfl 30 (.tmp 47) rfl b (ofs + i * 5) rfl [.int .u8 (ka : Int), .int .i64 fr, .int .i64 off, .slice pa pl.length pc, .int .u64 (u : Int)] _ HR.out Try.underlying30 rfl I5.out ?_)
            have A2 := Lib.hid (Own.new P1.out.os.bel #[.int .u8 (ka : Int), .int .i64 fr, .int .i64 off, .slice pa pl.length pc, .int .u64 (u : Int)] 30)
            have P2 := Lib.hid (P1.out.step ((Below.refl wr.heap.size wr).alloc (Nat.le_refl _) (.cells #[.int .u8 (ka : Int), .int .i64 fr, .int .i64 off, .slice pa pl.length pc, .int .u64 (u : Int)] 30)))
            have P1q := Lib.hid P1.out.os.k.qlt
            have P1m := Lib.hid (fun (mb cap : Nat) (h : mv = .slice (some ⟨mb, 0, none⟩) k cap) (hk : k ≠ 0) => P1.out.mblt h hk)
            clear P1 HR
            have NQ := Lib.hid (show sq ≠ wr.heap.size from by have := P1q.out; omega)
            have NM := P1m
            clear P1q P1m
            generalize wr.alloc _ = w3 at *
            generalize wr.heap.size = na at *
            have D := Lib.hid (fun (W : World) (hb : Below w3.heap.size w3 W) (j : Nat) (v : Value) (hv : [Value.int .u8 (ka : Int), .int .i64 fr, .int .i64 off, .slice pa pl.length pc, .int .u64 (u : Int)][j]? = some v) => (A2.out.step hb).cell hv)
            have d0 := D.out _ (Below.refl _ _) 0 _ rfl
            have d1 := D.out _ (Below.refl _ _) 1 _ rfl
            have d2 := D.out _ (Below.refl _ _) 2 _ rfl
            have d3 := D.out _ (Below.refl _ _) 3 _ rfl
            have d4 := D.out _ (Below.refl _ _) 4 _ rfl
            by_cases h300 : 300 < pl.length
            · have h3i : (300 : Int) < (pl.length : Int) := by omega
              as_aux_lemma =>
                go_wp2
                first | exact P2.out.os.bel | (go_ret; exact ⟨rfl, P2.out.os.bel⟩) | trace_state
            · have h3i : ¬ (300 : Int) < (pl.length : Int) := by omega
              go_upto_region 16 with (fail)
              clear h3i h300
              obtain ⟨hb, hhb⟩ : ∃ q, decide (0 ≤ fr ∧ fr < (k : Int)) = q := ⟨_, rfl⟩
              have HB := Lib.hid hhb
              clear hhb
              go_cut [11] from 53 to 53 (fun s wx => s = .bool hb ∧ w3 = wx)
              case first =>
                as_aux_lemma =>
                  by_cases h1 : 0 ≤ fr
                  · by_cases h2 : fr < (k : Int)
                    · have e1 : decide (0 ≤ fr) = true := decide_eq_true h1
                      have e2 : decide (fr < (k : Int)) = true := decide_eq_true h2
                      go_wp2_with fail
                      go_meet
                      exact ⟨by rw [← HB.out, decide_eq_true ⟨h1, h2⟩], rfl⟩
                    · have e1 : decide (0 ≤ fr) = true := decide_eq_true h1
                      have e2 : decide (fr < (k : Int)) = false := decide_eq_false h2
                      go_wp2_with fail
                      go_meet
                      exact ⟨by rw [← HB.out, decide_eq_false (by omega)], rfl⟩
                  · have e1 : decide (0 ≤ fr) = false := decide_eq_false h1
                    go_wp2_with fail
                    go_meet
                    exact ⟨by rw [← HB.out, decide_eq_false (by omega)], rfl⟩
              obtain ⟨rfl, rfl⟩ := hcut
              go_upto_block 4 with (fail)
              simp only [hkk]
              clear hkk d0
              go_cut [12, 13] from 66 to 183 (fun ev ov wx => ∃ l', Pt w sp sq nb mv k l' l' wx ∧ ((ov = .bool true ∧ ev = .int .i64 0) ∨ (ov = .bool false ∧ ev = .int .i64 1)))
              case first =>
                rcases (show kk = 2 ∨ kk = 3 ∨ kk = 4 ∨ (kk ≠ 2 ∧ kk ≠ 3 ∧ kk ≠ 4) by omega) with h2 | h2 | h2 | ⟨h2, h3, h4⟩
                · as_aux_lemma =>
                    have e2 : (kk == 2) = true := by rw [h2]; rfl
                    clear h2 kk0 kk5
                    go_upto_region 25 with (fail)
                    go_cut [13] from 108 to 117 (fun s wx => s = .bool ((hb && decide (0 ≤ off)) && decide (off < 32)) ∧ w3 = wx)
                    case first =>
                      as_aux_lemma =>
                        cases hb with
                        | false =>
                          go_wp2_with fail
                          go_meet
                          exact ⟨rfl, rfl⟩
                        | true =>
                          by_cases q0 : 0 ≤ off
                          · have z0 : decide (0 ≤ off) = true := decide_eq_true q0
                            by_cases q1 : off < 32
                            · have z1 : decide (off < 32) = true := decide_eq_true q1
                              go_wp2_with fail
                              go_meet
                              exact ⟨by rw [z0, z1]; rfl, rfl⟩
                            · have z1 : decide (off < 32) = false := decide_eq_false q1
                              go_wp2_with fail
                              go_meet
                              exact ⟨by rw [z0, z1]; rfl, rfl⟩
                          · have z0 : decide (0 ≤ off) = false := decide_eq_false q0
                            go_wp2_with fail
                            go_meet
                            exact ⟨by rw [z0]; simp, rfl⟩
                    obtain ⟨rfl, rfl⟩ := hcut
                    by_cases hok : (0 ≤ fr ∧ fr < (k : Int)) ∧ 0 ≤ off ∧ off < 32
                    · have e13 : ((hb && decide (0 ≤ off)) && decide (off < 32)) = true := by rw [← HB.out]; simp only [Bool.and_eq_true, decide_eq_true_eq]; omega
                      rw [e13]
                      clear e13
                      obtain ⟨x, rfl⟩ := Int.eq_ofNat_of_zero_le (show 0 ≤ fr by omega)
                      have hx : x < k := by omega
                      obtain ⟨o, rfl⟩ := Int.eq_ofNat_of_zero_le (show 0 ≤ off by omega)
                      have ho : o < 32 := by omega
                      have SV := Lib.hid (save_yes P2.out u hx ho)
                      have x0 : 0 ≤ (x : Int) := by omega
                      have xk : (x : Int) < (k : Int) := by omega
                      go_upto_region 28 with (go_at_call 9; refine SV.out.mono ?_; rintro e w4 ⟨rfl, h4, k4⟩; have P4 := Lib.hid h4; have A4 := Lib.hid (A2.out.keep k4 (Ne.symm NQ.out) (fun i hi e => by have := P2.out.os.n; omega)); clear h4 k4)
                      have LL := Lib.hid P2.out.ll
                      clear SV P2 A2 D d1 d2 d3 d4 hok HB
                      obtain ⟨mb, cap, g, c, hmv, hc1, hc2, hW⟩ := P4.out.openB hx
                      subst hmv
                      have HW := Lib.hid hW
                      clear hW
                      have HX := Lib.hid hx
                      have hcm : (c : Int) ≤ 9223372036854775807 := by unfold maxLen at hc2; omega
                      have hc1i : (256 : Int) ≤ (c : Int) := by omega
                      obtain ⟨o8, ho8⟩ : ∃ o8 : Nat, 8 * o = o8 := ⟨_, rfl⟩
                      have ho8i : 8 * (o : Int) = (o8 : Int) := by omega
                      rw [ho8] at P4 HW
                      have o3 : o8 ≤ 248 := by omega
                      have o2 : 0 ≤ (o8 : Int) := by omega
                      have o7 : (o8 : Int) ≤ 256 := by omega
                      have ow : IntKind.i64.wrap (o8 : Int) = (o8 : Int) := by rw [IntKind.wrap_i64]; omega
                      have o9 : o8 ≤ 256 := by omega
                      have o10 : o8 ≤ c := by omega
                      have o4 : ¬ (c ≤ o8) := by omega
                      have o5 : ¬ (c - o8 = 0) := by omega
                      have o6 : ¬ (o8 = c) := by omega
                      have o12 : ¬ (c = o8) := by omega
                      clear ho hx ho8
                      as_aux_lemma =>
                        have B6 := Lib.hid (show Below w4.heap.size w4 w4.drew from Heap.below_drewN (Below.refl w4.heap.size w4) 1)
                        have A6 := Lib.hid (A4.out.step B6.out)
                        have HBy := Lib.hid (bytes_calls u w4.drew)
                        have R7 := Lib.hid (news_blk (cs := (leB 8 u).map enc8) (sp := []) (by rw [List.append_nil]; exact Blk.new w4.drew ((leB 8 u).map enc8).toArray 5))
                        have B7 := Lib.hid ((Below.refl w4.drew.heap.size w4.drew).alloc (Nat.le_refl _) (.cells ((leB 8 u).map enc8).toArray 5))
                        have A7 := Lib.hid (A6.out.step B7.out)
                        have H7 := Lib.hid (HW.out _ (B6.out.trans (B7.out.mono B6.out.size)))
                        have H6 := Lib.hid (HW.out _ B6.out)
                        have LN := Lib.hid (show ((leB 8 u).map enc8).length = 8 by rw [List.length_map, leB_length])
                        have TH := Lib.hid (fun (j : Nat) (hj : j < ((leB 8 u).map enc8).length) => H7.out.2.2.1.there (frm_len LL.out HX.out) (j := o8 + j) (by have := LN.out; omega))
                        have P9 := Lib.hid (H7.out.2.2.2.1 o8 (leB 8 u) (by rw [leB_length]; omega))
                        have GN := Lib.hid (show g ≠ na ∧ g ≠ mb ∧ w.heap.size ≤ g from (HW.out w4 (Below.refl _ _)).2.2.1.apart (frm_len LL.out HX.out) (by have := HX.out; have := K4.out; omega) (A4.out.cell (i := 1) rfl) (HW.out w4 (Below.refl _ _)).1)
                        have Q6 : Hid (Se na mb x o u g c w4.drew) := ⟨A6.out.cell (i := 1) rfl, A6.out.cell (i := 2) rfl, A6.out.cell (i := 4) rfl, H6.out.1⟩
                        have Q7 : Hid (Se na mb x o u g c (w4.drew.alloc (.cells ((leB 8 u).map enc8).toArray 5))) := ⟨A7.out.cell (i := 1) rfl, A7.out.cell (i := 2) rfl, A7.out.cell (i := 4) rfl, H7.out.1⟩
                        have Q9 : Hid (Se na mb x o u g c ((w4.drew.alloc (.cells ((leB 8 u).map enc8).toArray 5)).setCells g o8 ((leB 8 u).map enc8))) := ⟨(A7.out.setAllO GN.out.1 GN.out.2.2 o8 _).cell (i := 1) rfl, (A7.out.setAllO GN.out.1 GN.out.2.2 o8 _).cell (i := 2) rfl, (A7.out.setAllO GN.out.1 GN.out.2.2 o8 _).cell (i := 4) rfl, by
                          rw [World.cell?_setCells_out g _ _ _ _ (fun h _ => absurd h.symm GN.out.2.1)]; exact H7.out.1⟩
                        clear H6 H7 HW A6 A7 B6 B7
                        refine wp_region_noPanic ?_
                        refine wp_region_held_drew (S := fun w' => Se na mb x o u g c w') (by kernel_rfl) Q6.out (fun hHeld => ?_)
                        refine quiet_post (fun _ _ _ _ _ h => h) (fun hQ => ?_)
                        have HQP := Lib.hid hQ
                        clear hQ
                        generalize w4.drew = w6 at *
                        refine wpAnyH_take (i := 0) (oi := ⟨some 128, _, _, _, _, _⟩) (v := .slice (some ⟨mb, 0, none⟩) k cap) rfl (by kernel_rfl) (by kernel_rfl) (by kernel_rfl) (fun c _ _ h => HQP.out c _ _ _ _ h) (Or.inl ⟨by rfl, fun w' hSw => by go_simp⟩) (by assumption) ?_
                        simp only [Act.put, List.setIfInBounds_toArray, List.set_cons_zero, List.set_cons_succ]
                        refine wpAnyH_take (i := 1) (oi := ⟨some 129, _, _, _, _, _⟩) (v := .pointer (some ⟨na, 1, none⟩)) rfl (by kernel_rfl) (by kernel_rfl) (by kernel_rfl) (fun c _ _ h => HQP.out c _ _ _ _ h) (Or.inl ⟨by rfl, fun w' hSw => by go_simp⟩) (by assumption) ?_
                        simp only [Act.put, List.setIfInBounds_toArray, List.set_cons_zero, List.set_cons_succ]
                        refine wpAnyH_take (i := 2) (oi := ⟨some 130, _, _, _, _, _⟩) (v := .int .i64 (x : Int)) rfl (by kernel_rfl) (by kernel_rfl) (by kernel_rfl) (fun c _ _ h => HQP.out c _ _ _ _ h) (Or.inl ⟨by rfl, fun w' hSw => by have q := hSw.c1; go_simp⟩) (by assumption) ?_
                        simp only [Act.put, List.setIfInBounds_toArray, List.set_cons_zero, List.set_cons_succ]
                        refine wpAnyH_take (i := 3) (oi := ⟨some 131, _, _, _, _, _⟩) (v := .pointer (some ⟨mb, x, none⟩)) rfl (by kernel_rfl) (by kernel_rfl) (by kernel_rfl) (fun c _ _ h => HQP.out c _ _ _ _ h) (Or.inl ⟨by rfl, fun w' hSw => by go_simp⟩) (by assumption) ?_
                        simp only [Act.put, List.setIfInBounds_toArray, List.set_cons_zero, List.set_cons_succ]
                        refine wpAnyH_take (i := 4) (oi := ⟨some 132, _, _, _, _, _⟩) (v := .slice (some ⟨g, 0, none⟩) 256 c) rfl (by kernel_rfl) (by kernel_rfl) (by kernel_rfl) (fun c _ _ h => HQP.out c _ _ _ _ h) (Or.inl ⟨by rfl, fun w' hSw => by have q := hSw.m; go_simp⟩) (by assumption) ?_
                        simp only [Act.put, List.setIfInBounds_toArray, List.set_cons_zero, List.set_cons_succ]
                        refine wpAnyH_take (i := 5) (oi := ⟨some 133, _, _, _, _, _⟩) (v := .pointer (some ⟨na, 2, none⟩)) rfl (by kernel_rfl) (by kernel_rfl) (by kernel_rfl) (fun c _ _ h => HQP.out c _ _ _ _ h) (Or.inl ⟨by rfl, fun w' hSw => by go_simp⟩) (by assumption) ?_
                        simp only [Act.put, List.setIfInBounds_toArray, List.set_cons_zero, List.set_cons_succ]
                        refine wpAnyH_take (i := 6) (oi := ⟨some 134, _, _, _, _, _⟩) (v := .int .i64 (o : Int)) rfl (by kernel_rfl) (by kernel_rfl) (by kernel_rfl) (fun c _ _ h => HQP.out c _ _ _ _ h) (Or.inl ⟨by rfl, fun w' hSw => by have q := hSw.c2; go_simp⟩) (by assumption) ?_
                        simp only [Act.put, List.setIfInBounds_toArray, List.set_cons_zero, List.set_cons_succ]
                        refine wpAnyH_take (i := 7) (oi := ⟨some 135, _, _, _, _, _⟩) (v := .int .i64 (o8 : Int)) rfl (by kernel_rfl) (by kernel_rfl) (by kernel_rfl) (fun c _ _ h => HQP.out c _ _ _ _ h) (Or.inl ⟨by rfl, fun w' hSw => by go_simp⟩) (by assumption) ?_
                        simp only [Act.put, List.setIfInBounds_toArray, List.set_cons_zero, List.set_cons_succ]
                        refine wpAnyH_take (i := 8) (oi := ⟨some 136, _, _, _, _, _⟩) (v := .slice (some ⟨g, o8, none⟩) (256 - o8) (c - o8)) rfl (by kernel_rfl) (by kernel_rfl) (by kernel_rfl) (fun c _ _ h => HQP.out c _ _ _ _ h) (Or.inl ⟨by rfl, fun w' hSw => by go_simp⟩) (by assumption) ?_
                        simp only [Act.put, List.setIfInBounds_toArray, List.set_cons_zero, List.set_cons_succ]
                        refine wpAnyH_take (i := 9) (oi := ⟨some 137, _, _, _, _, _⟩) (v := .pointer (some ⟨na, 4, none⟩)) rfl (by kernel_rfl) (by kernel_rfl) (by kernel_rfl) (fun c _ _ h => HQP.out c _ _ _ _ h) (Or.inl ⟨by rfl, fun w' hSw => by go_simp⟩) (by assumption) ?_
                        simp only [Act.put, List.setIfInBounds_toArray, List.set_cons_zero, List.set_cons_succ]
                        refine wpAnyH_take (i := 10) (oi := ⟨some 138, _, _, _, _, _⟩) (v := .int .u64 (u : Int)) rfl (by kernel_rfl) (by kernel_rfl) (by kernel_rfl) (fun c _ _ h => HQP.out c _ _ _ _ h) (Or.inl ⟨by rfl, fun w' hSw => by have q := hSw.c4; go_simp⟩) (by assumption) ?_
                        simp only [Act.put, List.setIfInBounds_toArray, List.set_cons_zero, List.set_cons_succ]
                        refine wpAnyH_ready (rs := [11]) (by kernel_rfl) (by simp) ?_
                        refine AllReadyH.cons (o := ⟨some 139, _, _, _, _, _⟩) rfl (fun K hK => ?_) AllReadyH.nil
                        go_simp
                        go_at_call 10
                        refine HBy.out.mono ?_
                        rintro e w9 ⟨rfl, rfl⟩
                        refine hK.out _ _ Q7.out (fun hHeld => ?_)
                        clear hK K
                        try simp only [Act.put, List.setIfInBounds_toArray, List.set_cons_zero, List.set_cons_succ]
                        refine wpAnyH_ready (rs := [12]) (by kernel_rfl) (by simp) ?_
                        refine AllReadyH.cons (o := ⟨some 140, _, _, _, _, _⟩) rfl (fun K hK => ?_) AllReadyH.nil
                        refine step_copy_any (by rfl) (.tmp 136) (.tmp 139) _ _ (by rfl) 5 Try.underlying27 size1 g o8 (256 - o8) (c - o8) ⟨w6.heap.size, 0, none⟩ 8 8 (by rfl) (by rfl) ((leB 8 u).map enc8) (by rw [LN.out]; exact (Nat.min_eq_left (by omega)).symm) R7.out (fun j hj => (TH.out j hj).1) (fun j hj => (TH.out j hj).2) (one_enc8 _) ?_
                        refine hK.out _ _ Q9.out (fun hHeld => ?_)
                        clear hK K
                        try simp only [Act.put, List.setIfInBounds_toArray, List.set_cons_zero, List.set_cons_succ]
                        refine wpAnyH_done (by kernel_rfl) ?_ _
                        refine NoPanic.normal ?_
                        try simp only [Act.put, List.setIfInBounds_toArray, List.set_cons_zero, List.set_cons_succ]
                        go_wp2
                        go_meet
                        exact ⟨_, P9.out, .inl ⟨rfl, rfl⟩⟩
                    · have e13 : ((hb && decide (0 ≤ off)) && decide (off < 32)) = false := by
                        cases hq : ((hb && decide (0 ≤ off)) && decide (off < 32)) with
                        | false => rfl
                        | true => exact absurd (by simp only [Bool.and_eq_true, decide_eq_true_eq, ← HB.out] at hq; omega) hok
                      rw [e13]
                      clear e13
                      have SV := Lib.hid (save_no P2.out K4.out u (fr := fr) (off := off) (fun h => hok ⟨⟨h.1, h.2.1⟩, h.2.2⟩))
                      as_aux_lemma =>
                        go_wp2_with (go_at_call 9; refine SV.out.mono ?_; rintro e w4 ⟨rfl, h4⟩; have P4 := Lib.hid h4; clear h4)
                        go_meet
                        exact ⟨_, P4.out, .inr ⟨rfl, rfl⟩⟩
                · as_aux_lemma =>
                    have e2 : (kk == 2) = false := by rw [h2]; rfl
                    have e3 : (kk == 3) = true := by rw [h2]; rfl
                    clear h2 kk0 kk5
                    by_cases hok : 0 ≤ fr ∧ fr < (k : Int)
                    · have e13 : hb = true := by rw [← HB.out]; simp only [Bool.and_eq_true, decide_eq_true_eq]; omega
                      subst e13
                      obtain ⟨x, rfl⟩ := Int.eq_ofNat_of_zero_le (show 0 ≤ fr by omega)
                      have hx : x < k := by omega
                      have SV := Lib.hid (clear_yes P2.out hx)
                      have x0 : 0 ≤ (x : Int) := by omega
                      have xk : (x : Int) < (k : Int) := by omega
                      go_upto_region 32 with (go_at_call 11; refine SV.out.mono ?_; rintro e w4 ⟨rfl, h4, k4⟩; have P4 := Lib.hid h4; have A4 := Lib.hid (A2.out.keep k4 (Ne.symm NQ.out) (fun i hi e => by have := P2.out.os.n; omega)); clear h4 k4)
                      have LL := Lib.hid P2.out.ll
                      clear SV P2 A2 D d1 d2 d3 d4 hok HB
                      obtain ⟨mb, cap, g, c, hmv, hc1, hc2, hW⟩ := P4.out.openB hx
                      subst hmv
                      have HW := Lib.hid hW
                      clear hW
                      have HX := Lib.hid hx
                      have hcm : (c : Int) ≤ 9223372036854775807 := by unfold maxLen at hc2; omega
                      have hc1i : (256 : Int) ≤ (c : Int) := by omega
                      have MNB := Lib.hid (show mb ≠ na ∧ w.heap.size ≤ mb from by have h1 := NM.out mb cap rfl (by omega); exact ⟨by omega, h1.1⟩)
                      clear hx
                      as_aux_lemma =>
                        have B6 := Lib.hid (show Below w4.heap.size w4 w4.drew from Heap.below_drewN (Below.refl w4.heap.size w4) 1)
                        have H6 := Lib.hid (HW.out _ B6.out)
                        have A6 := Lib.hid (A4.out.step B6.out)
                        have Q6 : Hid (Sc na x w4.drew) := ⟨A6.out.cell (i := 1) rfl⟩
                        obtain ⟨w7, hm, hs7, hb7, hbl7⟩ := make_bytes w4.drew 256 (by omega)
                        have hm0 : (Instr.makeSlice 27 (.int .i64 256) (.int .i64 256)).run Try.prog w4.drew = .ok (.slice (some ⟨w4.drew.heap.size, 0, none⟩) 256 256) w7 := hm
                        have Q7 : Hid (Sc na x w7) := ⟨(A6.out.step hbl7).cell (i := 1) rfl⟩
                        have H7 := (HW.out w7 (B6.out.trans (hbl7.mono B6.out.size)))
                        have m1 := H7.1
                        have m2 := H7.2.1
                        have P9 := Lib.hid (H6.out.2.2.2.2 w7 w4.drew.heap.size 256 (List.replicate 256 0) hbl7 (Nat.le_refl _) ⟨⟨[], by rw [List.append_nil]; exact ⟨A6.out.bel.trans (hbl7.mono A6.out.bel.size), A6.out.bel.size, hb7⟩⟩, by simp, by simp [maxLen]⟩ (by simp))
                        have Q9 : Hid (Sc na x (w7.setCell ⟨mb, x, none⟩ (.slice (some ⟨w4.drew.heap.size, 0, none⟩) 256 256))) := ⟨((A6.out.step hbl7).setO MNB.out.1 MNB.out.2 x _).cell (i := 1) rfl⟩
                        clear hm hs7 hb7 hbl7 H7 H6 A6 HW B6
                        refine wp_region_noPanic ?_
                        refine wp_region_held_drew (S := fun w' => Sc na x w') (by kernel_rfl) Q6.out (fun hHeld => ?_)
                        refine quiet_post (fun _ _ _ _ _ h => h) (fun hQ => ?_)
                        have HQP := Lib.hid hQ
                        clear hQ
                        generalize w4.drew = w6 at *
                        refine wpAnyH_take (i := 0) (oi := ⟨some 148, _, _, _, _, _⟩) (v := .slice (some ⟨mb, 0, none⟩) k cap) rfl (by kernel_rfl) (by kernel_rfl) (by kernel_rfl) (fun c _ _ h => HQP.out c _ _ _ _ h) (Or.inl ⟨by rfl, fun w' hSw => by go_simp⟩) (by assumption) ?_
                        simp only [Act.put, List.setIfInBounds_toArray, List.set_cons_zero, List.set_cons_succ]
                        refine wpAnyH_take (i := 1) (oi := ⟨some 149, _, _, _, _, _⟩) (v := .pointer (some ⟨na, 1, none⟩)) rfl (by kernel_rfl) (by kernel_rfl) (by kernel_rfl) (fun c _ _ h => HQP.out c _ _ _ _ h) (Or.inl ⟨by rfl, fun w' hSw => by go_simp⟩) (by assumption) ?_
                        simp only [Act.put, List.setIfInBounds_toArray, List.set_cons_zero, List.set_cons_succ]
                        refine wpAnyH_take (i := 2) (oi := ⟨some 150, _, _, _, _, _⟩) (v := .int .i64 (x : Int)) rfl (by kernel_rfl) (by kernel_rfl) (by kernel_rfl) (fun c _ _ h => HQP.out c _ _ _ _ h) (Or.inl ⟨by rfl, fun w' hSw => by have q := hSw.c; go_simp⟩) (by assumption) ?_
                        simp only [Act.put, List.setIfInBounds_toArray, List.set_cons_zero, List.set_cons_succ]
                        refine wpAnyH_ready (rs := [3]) (by kernel_rfl) (by simp) ?_
                        refine AllReadyH.cons (o := ⟨some 151, _, _, _, _, _⟩) rfl (fun K hK => ?_) AllReadyH.nil
                        go_simp
                        refine hK.out _ _ Q7.out (fun hHeld => ?_)
                        clear hK K
                        try simp only [Act.put, List.setIfInBounds_toArray, List.set_cons_zero, List.set_cons_succ]
                        refine wpAnyH_take (i := 4) (oi := ⟨some 152, _, _, _, _, _⟩) (v := .pointer (some ⟨mb, x, none⟩)) rfl (by kernel_rfl) (by kernel_rfl) (by kernel_rfl) (fun c _ _ h => HQP.out c _ _ _ _ h) (Or.inl ⟨by rfl, fun w' hSw => by go_simp⟩) (by assumption) ?_
                        simp only [Act.put, List.setIfInBounds_toArray, List.set_cons_zero, List.set_cons_succ]
                        refine wpAnyH_ready (rs := [5]) (by kernel_rfl) (by simp) ?_
                        refine AllReadyH.cons (o := ⟨none, _, _, _, _, _⟩) rfl (fun K hK => ?_) AllReadyH.nil
                        go_simp
                        refine hK.out _ _ Q9.out (fun hHeld => ?_)
                        clear hK K
                        try simp only [Act.put, List.setIfInBounds_toArray, List.set_cons_zero, List.set_cons_succ]
                        refine wpAnyH_done (by kernel_rfl) ?_ _
                        refine NoPanic.normal ?_
                        try simp only [Act.put, List.setIfInBounds_toArray, List.set_cons_zero, List.set_cons_succ]
                        go_wp2
                        go_meet
                        exact ⟨_, P9.out, .inl ⟨rfl, rfl⟩⟩
                    · have e13 : hb = false := by
                        cases hq : hb with
                        | false => rfl
                        | true => exact absurd (by simp only [Bool.and_eq_true, decide_eq_true_eq, ← HB.out] at hq; omega) hok
                      subst e13
                      have SV := Lib.hid (clear_no P2.out K4.out (fr := fr) hok)
                      as_aux_lemma =>
                        go_wp2_with (go_at_call 11; refine SV.out.mono ?_; rintro e w4 ⟨rfl, h4⟩; have P4 := Lib.hid h4; clear h4)
                        go_meet
                        exact ⟨_, P4.out, .inr ⟨rfl, rfl⟩⟩
                · as_aux_lemma =>
                    have e2 : (kk == 2) = false := by rw [h2]; rfl
                    have e3 : (kk == 3) = false := by rw [h2]; rfl
                    have e4 : (kk == 4) = true := by rw [h2]; rfl
                    clear h2 kk0 kk5
                    go_upto_region 34 with (fail)
                    go_cut [13] from 155 to 165 (fun s wx => s = .bool ((hb && decide (0 ≤ off)) && decide (off < (k : Int))) ∧ w3 = wx)
                    case first =>
                      as_aux_lemma =>
                        cases hb with
                        | false =>
                          go_wp2_with fail
                          go_meet
                          exact ⟨rfl, rfl⟩
                        | true =>
                          by_cases q0 : 0 ≤ off
                          · have z0 : decide (0 ≤ off) = true := decide_eq_true q0
                            by_cases q1 : off < (k : Int)
                            · have z1 : decide (off < (k : Int)) = true := decide_eq_true q1
                              go_wp2_with fail
                              go_meet
                              exact ⟨by rw [z0, z1]; rfl, rfl⟩
                            · have z1 : decide (off < (k : Int)) = false := decide_eq_false q1
                              go_wp2_with fail
                              go_meet
                              exact ⟨by rw [z0, z1]; rfl, rfl⟩
                          · have z0 : decide (0 ≤ off) = false := decide_eq_false q0
                            go_wp2_with fail
                            go_meet
                            exact ⟨by rw [z0]; simp, rfl⟩
                    obtain ⟨rfl, rfl⟩ := hcut
                    by_cases hok : (0 ≤ fr ∧ fr < (k : Int)) ∧ 0 ≤ off ∧ off < (k : Int)
                    · have e13 : ((hb && decide (0 ≤ off)) && decide (off < (k : Int))) = true := by rw [← HB.out]; simp only [Bool.and_eq_true, decide_eq_true_eq]; omega
                      rw [e13]
                      clear e13
                      obtain ⟨x, rfl⟩ := Int.eq_ofNat_of_zero_le (show 0 ≤ fr by omega)
                      have hx : x < k := by omega
                      obtain ⟨o, rfl⟩ := Int.eq_ofNat_of_zero_le (show 0 ≤ off by omega)
                      have ho : o < k := by omega
                      have SV := Lib.hid (copy_yes P2.out hx ho)
                      have x0 : 0 ≤ (x : Int) := by omega
                      have xk : (x : Int) < (k : Int) := by omega
                      go_upto_region 37 with (go_at_call 12; refine SV.out.mono ?_; rintro e w4 ⟨rfl, h4, k4⟩; have P4 := Lib.hid h4; have A4 := Lib.hid (A2.out.keep k4 (Ne.symm NQ.out) (fun i hi e => by have := P2.out.os.n; omega)); clear h4 k4)
                      have LL := Lib.hid P2.out.ll
                      clear SV P2 A2 D d1 d2 d3 d4 hok HB
                      obtain ⟨mb, cap, g, c, hmv, hc1, hc2, hW⟩ := P4.out.openB hx
                      subst hmv
                      have HW := Lib.hid hW
                      clear hW
                      have HX := Lib.hid hx
                      have hcm : (c : Int) ≤ 9223372036854775807 := by unfold maxLen at hc2; omega
                      have hc1i : (256 : Int) ≤ (c : Int) := by omega
                      have MNB := Lib.hid (show mb ≠ na ∧ w.heap.size ≤ mb from by have h1 := NM.out mb cap rfl (by omega); exact ⟨by omega, h1.1⟩)
                      obtain ⟨mb2, cap2, g2, c2, hmv2, hd1, hd2, hW2⟩ := P4.out.openB ho
                      obtain ⟨rfl, rfl⟩ : mb = mb2 ∧ cap = cap2 := by
                        simp only [Value.slice.injEq, Option.some.injEq, Addr.mk.injEq, and_true, true_and] at hmv2
                        exact hmv2
                      have HW2 := Lib.hid hW2
                      have HO := Lib.hid ho
                      have o2 : 0 ≤ (o : Int) := by omega
                      have ok4 : (o : Int) < (k : Int) := by omega
                      clear hx ho hW2 hmv2
                      as_aux_lemma =>
                        have B6 := Lib.hid (show Below w4.heap.size w4 w4.drew from Heap.below_drewN (Below.refl w4.heap.size w4) 1)
                        have H6 := Lib.hid (HW.out _ B6.out)
                        have H62 := Lib.hid (HW2.out _ B6.out)
                        have A6 := Lib.hid (A4.out.step B6.out)
                        have Q6 : Hid (Sd na x o w4.drew) := ⟨A6.out.cell (i := 1) rfl, A6.out.cell (i := 2) rfl⟩
                        have m0 := H62.out.1
                        obtain ⟨ii, hii2, hz5, hs6, hb6⟩ := byte_info
                        have HI := Lib.hid hii2
                        have HZ := Lib.hid hz5
                        have HSz := Lib.hid hs6
                        have HBy := Lib.hid hb6
                        clear hii2 hz5 hs6 hb6
                        have LF := Lib.hid (show (frm l o).length = 256 from frm_len LL.out HO.out)
                        have R6 := Lib.hid (show Row w4.drew enc8 (.slice (some ⟨g2, 0, none⟩) 256 c2) (frm l o) from H62.out.2.2.1.row LF.out)
                        refine wp_region_noPanic ?_
                        refine wp_region_held_drew (S := fun w' => Sd na x o w') (by kernel_rfl) Q6.out (fun hHeld => ?_)
                        refine quiet_post (fun _ _ _ _ _ h => h) (fun hQ => ?_)
                        have HQP := Lib.hid hQ
                        clear hQ
                        generalize w4.drew = w6 at *
                        refine wpAnyH_take (i := 0) (oi := ⟨some 174, _, _, _, _, _⟩) (v := .slice (some ⟨mb, 0, none⟩) k cap) rfl (by kernel_rfl) (by kernel_rfl) (by kernel_rfl) (fun c _ _ h => HQP.out c _ _ _ _ h) (Or.inl ⟨by rfl, fun w' hSw => by go_simp⟩) (by assumption) ?_
                        simp only [Act.put, List.setIfInBounds_toArray, List.set_cons_zero, List.set_cons_succ]
                        refine wpAnyH_take (i := 1) (oi := ⟨some 175, _, _, _, _, _⟩) (v := .pointer (some ⟨na, 1, none⟩)) rfl (by kernel_rfl) (by kernel_rfl) (by kernel_rfl) (fun c _ _ h => HQP.out c _ _ _ _ h) (Or.inl ⟨by rfl, fun w' hSw => by go_simp⟩) (by assumption) ?_
                        simp only [Act.put, List.setIfInBounds_toArray, List.set_cons_zero, List.set_cons_succ]
                        refine wpAnyH_take (i := 2) (oi := ⟨some 176, _, _, _, _, _⟩) (v := .int .i64 (x : Int)) rfl (by kernel_rfl) (by kernel_rfl) (by kernel_rfl) (fun c _ _ h => HQP.out c _ _ _ _ h) (Or.inl ⟨by rfl, fun w' hSw => by have q := hSw.c; go_simp⟩) (by assumption) ?_
                        simp only [Act.put, List.setIfInBounds_toArray, List.set_cons_zero, List.set_cons_succ]
                        refine wpAnyH_take (i := 3) (oi := ⟨some 177, _, _, _, _, _⟩) (v := .slice (some ⟨mb, 0, none⟩) k cap) rfl (by kernel_rfl) (by kernel_rfl) (by kernel_rfl) (fun c _ _ h => HQP.out c _ _ _ _ h) (Or.inl ⟨by rfl, fun w' hSw => by go_simp⟩) (by assumption) ?_
                        simp only [Act.put, List.setIfInBounds_toArray, List.set_cons_zero, List.set_cons_succ]
                        refine wpAnyH_take (i := 4) (oi := ⟨some 178, _, _, _, _, _⟩) (v := .pointer (some ⟨na, 2, none⟩)) rfl (by kernel_rfl) (by kernel_rfl) (by kernel_rfl) (fun c _ _ h => HQP.out c _ _ _ _ h) (Or.inl ⟨by rfl, fun w' hSw => by go_simp⟩) (by assumption) ?_
                        simp only [Act.put, List.setIfInBounds_toArray, List.set_cons_zero, List.set_cons_succ]
                        refine wpAnyH_take (i := 5) (oi := ⟨some 179, _, _, _, _, _⟩) (v := .int .i64 (o : Int)) rfl (by kernel_rfl) (by kernel_rfl) (by kernel_rfl) (fun c _ _ h => HQP.out c _ _ _ _ h) (Or.inl ⟨by rfl, fun w' hSw => by have q := hSw.d; go_simp⟩) (by assumption) ?_
                        simp only [Act.put, List.setIfInBounds_toArray, List.set_cons_zero, List.set_cons_succ]
                        refine wpAnyH_take (i := 6) (oi := ⟨some 180, _, _, _, _, _⟩) (v := .pointer (some ⟨mb, o, none⟩)) rfl (by kernel_rfl) (by kernel_rfl) (by kernel_rfl) (fun c _ _ h => HQP.out c _ _ _ _ h) (Or.inl ⟨by rfl, fun w' hSw => by go_simp⟩) (by assumption) ?_
                        simp only [Act.put, List.setIfInBounds_toArray, List.set_cons_zero, List.set_cons_succ]
                        refine wpAnyH_ready (rs := [7]) (by kernel_rfl) (by simp) ?_
                        refine AllReadyH.cons (o := ⟨some 181, _, _, _, _, _⟩) rfl (fun K hK => ?_) AllReadyH.nil
                        go_simp
                        refine hK.out _ _ Q6.out (fun hHeld => ?_)
                        clear hK K
                        try simp only [Act.put, List.setIfInBounds_toArray, List.set_cons_zero, List.set_cons_succ]
                        refine wpAnyH_ready (rs := [8]) (by kernel_rfl) (by simp) ?_
                        refine AllReadyH.cons (o := ⟨some 182, _, _, _, _, _⟩) rfl (fun K hK => ?_) AllReadyH.nil
                        refine step_append_row enc8_one (by rfl) (.const (.slice none 0 0)) (.tmp 181) _ (by rfl) w6.heap.size 5 ii _ 1 Try.underlying27 HI.out HZ.out HSz.out HBy.out (by rfl) (.slice none 0 0) 0 [] (by rfl) (World.ownsRow_nil _ _ _ _) (.slice (some ⟨g2, 0, none⟩) 256 c2) (frm l o) (by rfl) R6.out (by rw [LF.out]; unfold maxLen; omega) (by rw [LF.out]; omega) (Nat.le_refl _) ?_
                        intro v7 w7 h7 k7 o7
                        rw [LF.out, List.nil_append, Nat.zero_add] at h7
                        obtain ⟨g7, c7, sp7, rfl, hg7, hn7, hm7, hb7⟩ := sl_form h7 (by omega)
                        have hbl7 : Below w6.heap.size w6 w7 := Keep.below (keep_grown k7) (fun _ _ e => by cases e)
                        have Q7 : Hid (Sd na x o w7) := ⟨(A6.out.step hbl7).cell (i := 1) rfl, (A6.out.step hbl7).cell (i := 2) rfl⟩
                        have H7 := (HW.out w7 (B6.out.trans (hbl7.mono B6.out.size)))
                        have m1 := H7.1
                        have m2 := H7.2.1
                        have P9 := Lib.hid (H6.out.2.2.2.2 w7 g7 c7 (frm l o) hbl7 hg7 ⟨⟨sp7, ⟨A6.out.bel.trans (hbl7.mono A6.out.bel.size), Nat.le_trans A6.out.bel.size hg7, hb7⟩⟩, hn7, hm7⟩ LF.out)
                        have Q9 : Hid (Sd na x o (w7.setCell ⟨mb, x, none⟩ (.slice (some ⟨g7, 0, none⟩) 256 c7))) := ⟨((A6.out.step hbl7).setO MNB.out.1 MNB.out.2 x _).cell (i := 1) rfl, ((A6.out.step hbl7).setO MNB.out.1 MNB.out.2 x _).cell (i := 2) rfl⟩
                        clear h7 k7 o7 hb7 hbl7 H7 H6 H62 A6 HW HW2 B6
                        refine hK.out _ _ Q7.out (fun hHeld => ?_)
                        clear hK K
                        try simp only [Act.put, List.setIfInBounds_toArray, List.set_cons_zero, List.set_cons_succ]
                        refine wpAnyH_take (i := 9) (oi := ⟨some 183, _, _, _, _, _⟩) (v := .pointer (some ⟨mb, x, none⟩)) rfl (by kernel_rfl) (by kernel_rfl) (by kernel_rfl) (fun c _ _ h => HQP.out c _ _ _ _ h) (Or.inl ⟨by rfl, fun w' hSw => by go_simp⟩) (by assumption) ?_
                        simp only [Act.put, List.setIfInBounds_toArray, List.set_cons_zero, List.set_cons_succ]
                        refine wpAnyH_ready (rs := [10]) (by kernel_rfl) (by simp) ?_
                        refine AllReadyH.cons (o := ⟨none, _, _, _, _, _⟩) rfl (fun K hK => ?_) AllReadyH.nil
                        go_simp
                        refine hK.out _ _ Q9.out (fun hHeld => ?_)
                        clear hK K
                        try simp only [Act.put, List.setIfInBounds_toArray, List.set_cons_zero, List.set_cons_succ]
                        refine wpAnyH_done (by kernel_rfl) ?_ _
                        refine NoPanic.normal ?_
                        try simp only [Act.put, List.setIfInBounds_toArray, List.set_cons_zero, List.set_cons_succ]
                        go_wp2
                        go_meet
                        exact ⟨_, P9.out, .inl ⟨rfl, rfl⟩⟩
                    · have e13 : ((hb && decide (0 ≤ off)) && decide (off < (k : Int))) = false := by
                        cases hq : ((hb && decide (0 ≤ off)) && decide (off < (k : Int))) with
                        | false => rfl
                        | true => exact absurd (by simp only [Bool.and_eq_true, decide_eq_true_eq, ← HB.out] at hq; omega) hok
                      rw [e13]
                      clear e13
                      have SV := Lib.hid (copy_no P2.out K4.out (fr := fr) (off := off) (fun h => hok ⟨⟨h.1, h.2.1⟩, h.2.2⟩))
                      as_aux_lemma =>
                        go_wp2_with (go_at_call 12; refine SV.out.mono ?_; rintro e w4 ⟨rfl, h4⟩; have P4 := Lib.hid h4; clear h4)
                        go_meet
                        exact ⟨_, P4.out, .inr ⟨rfl, rfl⟩⟩
                · as_aux_lemma =>
                    have e2 : (kk == 2) = false := beq_false_of_ne h2
                    have e3 : (kk == 3) = false := beq_false_of_ne h3
                    have e4 : (kk == 4) = false := beq_false_of_ne h4
                    clear h2 h3 h4 kk0 kk5
                    go_upto_region 20 with (fail)
                    go_cut [13] from 66 to 84 (fun s wx => s = .bool (((hb && decide (0 ≤ off)) && decide (off ≤ 256)) && decide ((pl.length : Int) ≤ 256 - off)) ∧ w3 = wx)
                    case first =>
                      as_aux_lemma =>
                        cases hb with
                        | false =>
                          go_wp2_with fail
                          go_meet
                          exact ⟨rfl, rfl⟩
                        | true =>
                          by_cases q0 : 0 ≤ off
                          · have z0 : decide (0 ≤ off) = true := decide_eq_true q0
                            by_cases q1 : off ≤ 256
                            · have z1 : decide (off ≤ 256) = true := decide_eq_true q1
                              have ws : IntKind.i64.wrap (256 - off) = 256 - off := by rw [IntKind.wrap_i64]; omega
                              by_cases q2 : (pl.length : Int) ≤ 256 - off
                              · have z2 : decide ((pl.length : Int) ≤ 256 - off) = true := decide_eq_true q2
                                go_wp2_with fail
                                go_meet
                                exact ⟨by rw [z0, z1, z2]; rfl, rfl⟩
                              · have z2 : decide ((pl.length : Int) ≤ 256 - off) = false := decide_eq_false q2
                                go_wp2_with fail
                                go_meet
                                exact ⟨by rw [z0, z1, z2]; rfl, rfl⟩
                            · have z1 : decide (off ≤ 256) = false := decide_eq_false q1
                              go_wp2_with fail
                              go_meet
                              exact ⟨by rw [z0, z1]; simp, rfl⟩
                          · have z0 : decide (0 ≤ off) = false := decide_eq_false q0
                            go_wp2_with fail
                            go_meet
                            exact ⟨by rw [z0]; simp, rfl⟩
                    obtain ⟨rfl, rfl⟩ := hcut
                    by_cases hok : (0 ≤ fr ∧ fr < (k : Int)) ∧ 0 ≤ off ∧ off ≤ 256 ∧ (pl.length : Int) ≤ 256 - off
                    · have e13 : (((hb && decide (0 ≤ off)) && decide (off ≤ 256)) && decide ((pl.length : Int) ≤ 256 - off)) = true := by rw [← HB.out]; simp only [Bool.and_eq_true, decide_eq_true_eq]; omega
                      rw [e13]
                      clear e13
                      obtain ⟨x, rfl⟩ := Int.eq_ofNat_of_zero_le (show 0 ≤ fr by omega)
                      have hx : x < k := by omega
                      obtain ⟨o, rfl⟩ := Int.eq_ofNat_of_zero_le (show 0 ≤ off by omega)
                      have ho : o ≤ 256 := by omega
                      have hpo : pl.length ≤ 256 - o := by omega
                      have SV := Lib.hid (write_yes P2.out (RP.out _ P2.out.os.bel) PB.out hx ho hpo)
                      have x0 : 0 ≤ (x : Int) := by omega
                      have xk : (x : Int) < (k : Int) := by omega
                      go_upto_region 23 with (go_at_call 13; refine SV.out.mono ?_; rintro e w4 ⟨rfl, h4, k4⟩; have P4 := Lib.hid h4; have A4 := Lib.hid (A2.out.keep k4 (Ne.symm NQ.out) (fun i hi e => by have := P2.out.os.n; omega)); clear h4 k4)
                      have LL := Lib.hid P2.out.ll
                      clear SV P2 A2 D d1 d2 d3 d4 hok HB
                      obtain ⟨mb, cap, g, c, hmv, hc1, hc2, hW⟩ := P4.out.openB hx
                      subst hmv
                      have HW := Lib.hid hW
                      clear hW
                      have HX := Lib.hid hx
                      have hcm : (c : Int) ≤ 9223372036854775807 := by unfold maxLen at hc2; omega
                      have hc1i : (256 : Int) ≤ (c : Int) := by omega
                      have o2 : 0 ≤ (o : Int) := by omega
                      have o7 : (o : Int) ≤ 256 := by omega
                      have ow : IntKind.i64.wrap (o : Int) = (o : Int) := by rw [IntKind.wrap_i64]; omega
                      have o9 : o ≤ 256 := by omega
                      have o10 : o ≤ c := by omega
                      have m0 := (HW.out w4 (Below.refl _ _)).1
                      have d1 := A4.out.cell (i := 1) rfl
                      have d2 := A4.out.cell (i := 2) rfl
                      have d3 := A4.out.cell (i := 3) rfl
                      clear hx
                      by_cases o12 : c = o
                      · have h0 : pl = [] := List.eq_nil_of_length_eq_zero (by omega)
                        have hc0 : c = 256 := by omega
                        have ho0 : o = 256 := by omega
                        subst h0 hc0 ho0
                        rw [splice8_nil] at P4
                        simp only [List.length_nil] at d3 ⊢
                        as_aux_lemma =>
                          go_still_tail 10, (by kernel_rfl)
                          change wpList _ _ _ _ _ (World.drewN _ 1)
                          have P9 := Lib.hid (P4.out.step (Heap.below_drewN (Below.refl w4.heap.size w4) 1))
                          generalize w4.drewN 1 = w6 at *
                          clear d1 d2 d3 m0 HW
                          go_wp2_with ((with_reducible refine copy_gate (105) ?_); refine wpList_copy_nothing (by rfl) _ _ _ _ (by rfl) 5 Try.underlying27 size1 (some ⟨g, 0, none⟩) pa 0 0 0 pc (by rfl) (by rfl) (by rfl) ?_)
                          go_meet
                          exact ⟨_, P9.out, .inl ⟨rfl, rfl⟩⟩
                      · have o4 : ¬ (c ≤ o) := by omega
                        have o5 : ¬ (c - o = 0) := by omega
                        have o6 : ¬ (o = c) := by omega
                        as_aux_lemma =>
                          go_still_tail 10, (by kernel_rfl)
                          change wpList _ _ _ _ _ (World.drewN _ 1)
                          have B6 := Lib.hid (Heap.below_drewN (Below.refl w4.heap.size w4) 1)
                          generalize w4.drewN 1 = w6 at *
                          have H7 := Lib.hid (HW.out _ B6.out)
                          have R7 := Lib.hid (RP.out _ (P4.out.step B6.out).os.bel)
                          have LN := Lib.hid hpo
                          have TH := Lib.hid (fun (j : Nat) (hj : j < pl.length) => H7.out.2.2.1.there (frm_len LL.out HX.out) (j := o + j) (by have := LN.out; omega))
                          have P9 := Lib.hid (H7.out.2.2.2.1 o pl (by have := LN.out; omega))
                          clear d1 d2 d3 m0 H7 HW B6
                          go_wp2_with ((with_reducible refine copy_gate (105) ?_); refine wpList_copy_row (by rfl) (.tmp 102) (.tmp 104) _ _ (by rfl) 5 Try.underlying27 size1 g o (256 - o) (c - o) pl (by rfl) R7.out LN.out (fun j hj => (TH.out j hj).1) (fun j hj => (TH.out j hj).2) ?_)
                          go_meet
                          exact ⟨_, P9.out, .inl ⟨rfl, rfl⟩⟩
                    · have e13 : (((hb && decide (0 ≤ off)) && decide (off ≤ 256)) && decide ((pl.length : Int) ≤ 256 - off)) = false := by
                        cases hq : (((hb && decide (0 ≤ off)) && decide (off ≤ 256)) && decide ((pl.length : Int) ≤ 256 - off)) with
                        | false => rfl
                        | true => exact absurd (by simp only [Bool.and_eq_true, decide_eq_true_eq, ← HB.out] at hq; omega) hok
                      rw [e13]
                      clear e13
                      have SV := Lib.hid (write_no P2.out K4.out (RP.out _ P2.out.os.bel) (fr := fr) (off := off) (fun h => hok ⟨⟨h.1, h.2.1⟩, h.2.2⟩))
                      as_aux_lemma =>
                        go_wp2_with (go_at_call 13; refine SV.out.mono ?_; rintro e w4 ⟨rfl, h4⟩; have P4 := Lib.hid h4; clear h4)
                        go_meet
                        exact ⟨_, P4.out, .inr ⟨rfl, rfl⟩⟩
              obtain ⟨l9, hp9, hov⟩ := hcut
              have P3 := Lib.hid hp9
              clear hp9 P2 A2 D d1 d2 d3 d4 HB RP PB I5 NQ NM kk0 kk5
              obtain ⟨ok, rfl, rfl⟩ : ∃ ok : Bool, u13 = .bool ok ∧ u12 = .int .i64 (if ok = true then 0 else 1) := by
                rcases hov with ⟨h1, h2⟩ | ⟨h1, h2⟩
                · exact ⟨true, h1, by rw [h2]; rfl⟩
                · exact ⟨false, h1, by rw [h2]; rfl⟩
              clear hov
              go_upto_region 38 with (fail)
              go_cut [196] from 184 to 195 (fun s wx => s = .bool false ∧ wc = wx)
              case first =>
                as_aux_lemma =>
                  cases ok with
                  | false =>
                    go_wp2_with fail
                    go_meet
                    exact ⟨rfl, rfl⟩
                  | true =>
                    go_wp2_with fail
                    go_meet
                    exact ⟨rfl, rfl⟩
              obtain ⟨rfl, rfl⟩ := hcut
              generalize (if ok = true then (0 : Int) else 1) = evx at *
              go_upto_region 41 with (fail)
              go_loopw [14] (fun fv wx => ∃ f : Nat, f ≤ k ∧ fv = .int .i64 f ∧ Pt w sp sq nb mv k l9 l9 wx) (fun fv _ => k - (intOf fv).toNat)
              case atStart => exact ⟨0, Nat.zero_le _, rfl, P3.out⟩
              case round =>
                obtain ⟨f, hf, rfl, hp⟩ := hrel
                have P4 := Lib.hid hp
                clear hp P3
                by_cases hfk : f < k
                · have hfi : (f : Int) < (k : Int) := by omega
                  have hf0 : 0 ≤ (f : Int) := by omega
                  have RD := Lib.hid (read_frm P4.out hfk)
                  obtain ⟨mb, cap, g, c, hmv, hc1, hc2, hW⟩ := P4.out.openB hfk
                  subst hmv
                  have HW := Lib.hid hW
                  have LF := Lib.hid (frm_len P4.out.ll hfk)
                  clear hW hfk hc1 hc2
                  as_aux_lemma =>
                    go_upto_region 44 with (go_at_call 14; refine RD.out.mono ?_; rintro e w9 ⟨v9, rfl, r9, b9⟩; have R9 := Lib.hid r9; have B9 := Lib.hid b9; clear r9 b9)
                    have m0 := (HW.out _ B9.out).1
                    have R10 := Lib.hid (show Row w9 enc8 (.slice (some ⟨g, 0, none⟩) 256 c) (frm l9 f) from (HW.out _ B9.out).2.2.1.row LF.out)
                    have P5 := Lib.hid (P4.out.step B9.out)
                    obtain ⟨a9, c9, hv9⟩ := R9.out.form
                    rw [LF.out] at hv9
                    subst hv9
                    have s1 := fun n => run_string (P := Try.prog) (w9.drewN n) 27 9 5 Try.underlying27 Try.underlying5 Try.underlying9 _ _ (R9.out.drewN n)
                    have s2 := fun n => run_string (P := Try.prog) (w9.drewN n) 27 9 5 Try.underlying27 Try.underlying5 Try.underlying9 _ _ (R10.out.drewN n)
                    generalize strOf (frm l9 f) = S1 at *
                    clear R9 R10 HW RD P4 B9 LF
                    go_quiet (fail)
                    have P6 := Lib.hid (fun q => P5.out.step (Heap.below_drewN (Below.refl w9.heap.size w9) q))
                    clear P5 s1 s2
                    go_wp2
                    go_roundw
                    case rel => first | exact ⟨f + 1, by omega, by go_num, P6.out _⟩ | ((repeat apply Exists.intro); exact ⟨⟨f + 1, by omega, by go_num, P6.out _⟩, rfl⟩)
                    case measure => first | (simp only [intOf]; omega) | (simp [intOf]; omega)
                · have hfi : ¬ (f : Int) < (k : Int) := by omega
                  as_aux_lemma =>
                    go_wp2
                    go_roundw
                    case rel => first | exact ⟨i + 1, l9, by omega, by go_num, P4.out⟩ | ((repeat apply Exists.intro); exact ⟨⟨i + 1, l9, by omega, by go_num, P4.out⟩, rfl⟩)
                    case measure => first | (simp only [intOf]; omega) | (simp [intOf]; omega)
          · have hii : ¬ (i : Int) < (segs.length : Int) := by omega
            have FR := Lib.hid (P1.out.frames wr (Below.refl _ _))
            have PBX := Lib.hid P1.out.os.bel
            clear HF HA P1
            go_wp2_with (go_at_call 15; refine FR.out.mono ?_; rintro e w9 ⟨rfl, rfl⟩)
            go_ret
            exact ⟨ret_bool (by simp), PBX.out⟩
end Go.Proofs.Ytfjpdcalogfhbaa.Walks
