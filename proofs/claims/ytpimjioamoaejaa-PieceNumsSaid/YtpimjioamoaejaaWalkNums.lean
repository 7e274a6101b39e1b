/- Walks through the functions of the statement, and the statement over them: each contract says what the call answers and that nothing else changes. -/
import Derived.Test.YtpimjioamoaejaaProg
import Derived.Laws.BytesString
import Derived.Test.YtpimjioamoaejaaBits
import Derived.Test.YtpimjioamoaejaaHeap
import Derived.Test.YtpimjioamoaejaaAid
import Derived.Lib.Hide
import Derived.Test.YtpimjioamoaejaaArr
import Derived.Test.YtpimjioamoaejaaEql
import Derived.Test.YtpimjioamoaejaaWalkSums
import Derived.Test.YtpimjioamoaejaaWalkApp
import Derived.Test.YtpimjioamoaejaaWalkEye
import Derived.Test.YtpimjioamoaejaaWalkPen
import Derived.WalkKit
import Derived.WalkSpells
import Derived.WalkLawsBesides
import Derived.Deep.QuietTactic
import Derived.BigQuiet
import Derived.Deep.RegionHeld3
import Derived.Deep.DeepCutAuto
import Derived.Deep.CutBlock
import Derived.Lib.SlBytesConst
import Derived.StillTailTactics
import Derived.Laws.MakeOwn
import Derived.Deep.AppendLies
import Derived.Laws.CopyOwn
import Derived.Maps.AppendAt
import Derived.Deep.Upon
import Derived.Deep.AppendSrc
import Derived.RegionTactic
import Derived.Great.Walk
import Derived.Deep.RegionLaw
namespace Go.Proofs.Ytpimjioamoaejaa.Walks
set_option linter.unusedVariables false
set_option linter.unusedSimpArgs false
open Go.RowKit Go.Proofs.Ytpimjioamoaejaa.Bits Go.Proofs.Ytpimjioamoaejaa.Heap Go.Proofs.Ytpimjioamoaejaa.Aid Go.Proofs.Ytpimjioamoaejaa.Arr Go.Proofs.Ytpimjioamoaejaa.Eql

def strOf (l : List Nat) : ByteArray := ⟨(l.map UInt8.ofNat).toArray⟩
theorem strOf_inj {l m : List Nat} (hl : ∀ x ∈ l, x < 256) (hm : ∀ x ∈ m, x < 256) (h : strOf l = strOf m) : l = m := by
  have h1 : l.map UInt8.ofNat = m.map UInt8.ofNat := by
    have := congrArg (fun b : ByteArray => b.data.toList) h
    simpa [strOf] using this
  have h2 : ∀ l : List Nat, (∀ x ∈ l, x < 256) → (l.map UInt8.ofNat).map UInt8.toNat = l := by
    intro l
    induction l with
    | nil => intro _; rfl
    | cons x r ih =>
      intro h
      rw [List.map_cons, List.map_cons, ih (fun y hy => h y (by simp [hy]))]
      congr 1
      have := h x (by simp)
      simp
      omega
  rw [← h2 l hl, ← h2 m hm, h1]
/-- 'string(b)'. -/
theorem run_string {P : Program} (w : World) (src dst e : TypeId) (hs : P.underlying src = some (.slice e)) (he : P.underlying e = some (.int .u8)) (hd : P.underlying dst = some .string) (v : Value) (l : List Nat) (hr : Row w enc8 v l) :
    (convert src dst v).run P w = .ok (.string (strOf l)) w := by
  rcases hr with ⟨rfl, rfl⟩ | ⟨a, cap, rfl, hc, hcell⟩
  · rw [run_convert_bytes_string w src dst e _ 0 0 hs he hd]
    simp [Conv.bytesToString]
    rfl
  · rw [run_convert_bytes_string w src dst e _ _ cap hs he hd]
    have hl := run_loadCells_list (P := P) w a ((l.map fun x : Nat => (x : Int)).map (Value.int .u8)) (fun j v hj => by
      rw [List.map_map, List.getElem?_map] at hj
      obtain ⟨x, hx, rfl⟩ := Option.map_eq_some_iff.1 hj
      exact hcell j x hx)
    rw [List.length_map, List.length_map] at hl
    rw [run_bytesToString w a l.length cap _ hl]
    congr 2
    have : ∀ (l : List Nat) (s : ByteArray), (l.map fun x : Nat => (x : Int)).foldl (fun r n => r.push (UInt8.ofNat n.toNat)) s = ⟨s.data ++ (l.map UInt8.ofNat).toArray⟩ := by
      intro l
      induction l with
      | nil => intro s; simp
      | cons x r ih =>
        intro s
        rw [List.map_cons, List.foldl_cons, ih]
        simp [ByteArray.push]
    rw [this]
    simp [strOf, ByteArray.empty, ByteArray.emptyWithCapacity]
    try rfl
/-- The post of a panic does not hang on the frame: said once. -/
theorem quiet_post {P : Program} {md : Region.Mode} {ops : Array Oper} {Q : Exit → Act → World → Prop} {S : World → Prop} {f : Nat} {l : Array Bool} {a : Act} {w : World}
    (h0 : ∀ c (a : Act) (d : Option Tmp) (v : Value) (w : World), Q (.panic c) (a.put d v) w → Q (.panic c) a w)
    (h : (∀ c (a : Act) (d : Option Tmp) (v : Value) (w : World), Q (.panic c) (a.put d v) w → Q (.panic c) a w) → wpAnyH P md ops Q S f l a w) : wpAnyH P md ops Q S f l a w := h h0
/-- What an eye that reads the first kk bytes of T has left behind c bytes of it. -/
def StR (T : List Nat) (kk c : Nat) (l : List Nat) (bad : Bool) : Prop := (c ≤ kk ∧ bad = false ∧ l = (T.drop c).take (kk - c)) ∨ (kk < c ∧ bad = true)
theorem st_start (T : List Nat) (kk : Nat) : StR T kk 0 (T.take kk) false := .inl ⟨Nat.zero_le _, rfl, by simp⟩
theorem st_len {T : List Nat} {kk c : Nat} (hk : kk ≤ T.length) (hc : c ≤ kk) : ((T.drop c).take (kk - c)).length = kk - c := by
  rw [List.length_take, List.length_drop]; omega
theorem st_word {T rest l : List Nat} {kk c x : Nat} {bad : Bool} (h : StR T kk c l bad) (hk : kk ≤ T.length) (hT : T.drop c = leB 8 x ++ rest) (hx : ofB (leB 8 x) = x) :
    StR T kk (c + 8) (rdW l bad).2.1 (rdW l bad).2.2 ∧ (kk = T.length → (rdW l bad).1 = x) := by
  have hl : c + 8 ≤ T.length := by
    have := congrArg List.length hT
    rw [List.length_drop, List.length_append, leB_length] at this
    omega
  unfold rdW
  rcases h with ⟨hc, rfl, rfl⟩ | ⟨hc, rfl⟩
  · by_cases h8 : kk - c < 8
    · rw [if_pos (.inr (by rw [st_len hk hc]; exact h8))]
      exact ⟨.inr ⟨by omega, rfl⟩, fun e => by omega⟩
    · rw [if_neg (by rintro (h | h); cases h; rw [st_len hk hc] at h; exact h8 h)]
      refine ⟨.inl ⟨by omega, rfl, ?_⟩, fun _ => ?_⟩
      · show List.drop 8 _ = _
        rw [List.drop_take, List.drop_drop]
        congr 1 <;> omega
      · show ofB _ = x
        rw [List.take_take, Nat.min_eq_left (by omega), hT, List.take_left' (leB_length 8 x), hx]
  · rw [if_pos (.inl rfl)]
    exact ⟨.inr ⟨by omega, rfl⟩, fun e => by omega⟩
theorem st_num {T rest l : List Nat} {kk c x most : Nat} {bad : Bool} (h : StR T kk c l bad) (hk : kk ≤ T.length) (hT : T.drop c = numE x ++ rest) (hx : x < 2 ^ 64) (hm : x ≤ most) :
    StR T kk (c + (numE x).length) (numS l bad most).2.1 (numS l bad most).2.2 ∧ (kk = T.length → (numS l bad most).1 = x) := by
  have hp := numE_pos x
  have hl : c + (numE x).length ≤ T.length := by
    have := congrArg List.length hT
    rw [List.length_drop, List.length_append] at this
    omega
  unfold numS
  rcases h with ⟨hc, rfl, rfl⟩ | ⟨hc, rfl⟩
  · rw [if_neg (by simp)]
    by_cases h8 : kk - c < (numE x).length
    · have e : numA 0 ((T.drop c).take (kk - c)) = none := by
        rw [hT, List.take_append_of_le_length (by omega)]
        exact numA_cut x x 0 _ (Nat.le_refl _) h8
      rw [e]
      exact ⟨.inr ⟨by omega, rfl⟩, fun e => by omega⟩
    · have e : numA 0 ((T.drop c).take (kk - c)) = some (x, (numE x).length) := by
        rw [hT, List.take_append, List.take_of_length_le (by omega)]
        exact numA_enc x x 0 _ (Nat.le_refl _) (by simpa using hx) (by omega) (by omega)
      rw [e]
      simp only [if_pos hm]
      refine ⟨.inl ⟨by omega, rfl, ?_⟩, fun _ => by trivial⟩
      rw [List.drop_take, List.drop_drop]
      congr 1 <;> omega
  · rw [if_pos rfl]
    exact ⟨.inr ⟨by omega, rfl⟩, fun e => by omega⟩
theorem st_bytes {T l ps : List Nat} {kk c : Nat} {bad : Bool} (h : StR T kk c l bad) (hk : kk ≤ T.length) (hT : T.drop c = numE ps.length ++ ps) (hp : ps.length ≤ 60) :
    (kk = T.length → (rdB l bad 60).1 = ps ∧ (rdB l bad 60).2.1 = [] ∧ (rdB l bad 60).2.2 = false) ∧ (kk < T.length → (rdB l bad 60).1 = [] ∧ (rdB l bad 60).2.2 = true) := by
  have hl : T.length = c + (numE ps.length).length + ps.length := by
    have h1 := congrArg List.length hT
    rw [List.length_drop, List.length_append] at h1
    have := numE_pos ps.length
    omega
  obtain ⟨h1, h2⟩ := st_num h hk hT (by omega) hp
  unfold rdB
  refine ⟨fun e => ?_, fun e => ?_⟩
  · have hv := h2 e
    rcases h1 with ⟨hc, hb, hq⟩ | ⟨hc, hb⟩
    · have hd : (numS l bad 60).2.1 = ps := by
        rw [hq, ← List.drop_drop, hT, List.drop_left, List.take_of_length_le (by omega)]
      rw [if_neg (by rintro (h | h); rw [hb] at h; cases h; rw [hd, hv] at h; omega), hv, hd]
      exact ⟨List.take_of_length_le (Nat.le_refl _), List.drop_of_length_le (Nat.le_refl _), rfl⟩
    · omega
  · rcases h1 with ⟨hc, hb, hq⟩ | ⟨hc, hb⟩
    · by_cases hnn : (numS l bad 60).1 = ps.length
      · have hd : (numS l bad 60).2.1.length < (numS l bad 60).1 := by
          rw [hq, hnn, List.length_take, List.length_drop]; omega
        rw [if_pos (.inr hd)]
        exact ⟨rfl, rfl⟩
      · exfalso
        apply hnn
        rcases h with ⟨hc', rfl, rfl⟩ | ⟨hc', rfl⟩
        · unfold numS
          rw [if_neg (by simp)]
          have e : numA 0 ((T.drop c).take (kk - c)) = some (ps.length, (numE ps.length).length) := by
            rw [hT, List.take_append, List.take_of_length_le (by omega)]
            exact numA_enc _ _ 0 _ (Nat.le_refl _) (by omega) (by omega) (by omega)
          rw [e]
          simp only [if_pos hp]
        · omega
    · rw [if_pos (.inl hb)]
      exact ⟨rfl, rfl⟩
/-- An eye of the call's own. -/
structure Er (w : World) (e : Nat) (l : List Nat) (bad : Bool) (W : World) : Prop where
  bel : Below w.heap.size w W
  n : w.heap.size ≤ e
  y : ∃ v, Ey W e v l bad
theorem Er.next {w W W' : World} {e : Nat} {v' : Value} {l l' : List Nat} {bad bad' : Bool} (h : Er w e l bad W) (k : Keep (fun i => i = e) W W') (y : Ey W' e v' l' bad') : Er w e l' bad' W' :=
  ⟨Keep.belowB h.bel k h.bel.size (fun i hi q => by have := h.n; omega), h.n, _, y⟩
theorem Er.step {w W W' : World} {e : Nat} {l : List Nat} {bad : Bool} (h : Er w e l bad W) (b : Below W.heap.size W W') : Er w e l bad W' := by
  obtain ⟨v, hv⟩ := h.y
  exact ⟨h.bel.trans (b.mono h.bel.size), h.n, v, hv.keep b⟩
theorem numsE_lt (ns : List Nat) : ∀ x ∈ numsE ns, x < 256 := by
  intro x hx
  unfold numsE at hx
  obtain ⟨n, _, h⟩ := List.mem_flatMap.1 hx
  exact numE_lt n n (Nat.le_refl _) x h
theorem wordsE_lt (ws : List Nat) : ∀ x ∈ wordsE ws, x < 256 := by
  intro x hx
  unfold wordsE at hx
  obtain ⟨n, _, h⟩ := List.mem_flatMap.1 hx
  exact leB_lt 8 n x h
theorem eye_new {w wd : World} {nb kk L c : Nat} {ad : Addr} {T : List Nat} (h : Bs w nb (.slice (some ad) L c) T wd) (hL : T.length = L) (hk : kk ≤ L) (hT : ∀ x ∈ T, x < 256) (h2 : L ≤ 1000) :
    Er w wd.heap.size (T.take kk) false (wd.alloc (.cells #[.slice (some ad) kk c, .bool false] 54)) := by
  refine ⟨h.bel.alloc h.bel.size _, h.bel.size, _, ⟨Blk.new wd _ _, fun wx k => ?_, fun x hx => hT x (List.mem_of_mem_take hx), by rw [List.length_take]; omega⟩⟩
  have k2 : Keep (fun i => i = wd.heap.size) wd wx := (Keep.of_below ((Below.refl wd.heap.size wd).alloc (Nat.le_refl _) _)).trans k
  have r := row_owns (sl_keep h.r k2 (fun g hg q => by have := (World.ownsRow.lt h.r g hg).2; omega))
  subst hL
  exact row_taken r kk hk
theorem wordsE_drop (ws : List Nat) (i : Nat) (hi : i < ws.length) (r : List Nat) : (wordsE ws ++ r).drop (8 * i) = leB 8 ws[i] ++ (wordsE (ws.drop (i + 1)) ++ r) := by
  have e : wordsE ws = wordsE (ws.take i) ++ (leB 8 ws[i] ++ wordsE (ws.drop (i + 1))) := by
    unfold wordsE
    conv => lhs; rw [← List.take_append_drop i ws, List.drop_eq_getElem_cons hi]
    rw [List.flatMap_append, List.flatMap_cons]
  rw [e, List.append_assoc, List.drop_left' (by rw [wordsE_len, List.length_take]; omega), List.append_assoc]
theorem numsE_drop (T a ns r : List Nat) (i : Nat) (hi : i < ns.length) (hT : T = a ++ numsE ns ++ r) : T.drop (a.length + (numsE (ns.take i)).length) = numE ns[i] ++ (numsE (ns.drop (i + 1)) ++ r) := by
  have e : numsE ns = numsE (ns.take i) ++ (numE ns[i] ++ numsE (ns.drop (i + 1))) := by
    unfold numsE
    conv => lhs; rw [← List.take_append_drop i ns, List.drop_eq_getElem_cons hi]
    rw [List.flatMap_append, List.flatMap_cons]
  rw [hT, e, ← List.append_assoc a, List.append_assoc (a ++ numsE (ns.take i)), List.drop_left' (by rw [List.length_append]), List.append_assoc]
structure Cw (a : Addr) (x : Nat) (w' : World) : Prop where
  c : w'.cell? a = some (.int .u64 (x : Int))
/-- The pen, and what should be in it, behind it. -/
structure Ns (w : World) (e : Nat) (pv : Value) (wl : List Nat) (nb : Nat) (wv : Value) (l : List Nat) (W : World) : Prop where
  p : Pn w e pv wl W
  b : Bs w nb wv l W
  pe : e < nb
  pb : ∀ g, pv.ownBlock = some g → g < nb
theorem Ns.step {w W W' : World} {e nb : Nat} {pv wv : Value} {wl l : List Nat} (h : Ns w e pv wl nb wv l W) (b : Below W.heap.size W W') : Ns w e pv wl nb wv l W' := ⟨h.p.step b, h.b.step b, h.pe, h.pb⟩
theorem Pn.keep {S : Nat → Prop} {w W W' : World} {e : Nat} {pv : Value} {wl : List Nat} (h : Pn w e pv wl W) (k : Keep S W W') (he : ¬ S e) (hp : ∀ g, pv.ownBlock = some g → ¬ S g) (h0 : ∀ i, i < w.heap.size → ¬ S i) : Pn w e pv wl W' :=
  ⟨Keep.belowB h.bel k h.bel.size h0, h.n, h.c.keep k he, sl_keep h.r k hp⟩
theorem Ns.grow {w W W' : World} {e nb : Nat} {pv wv wv' : Value} {wl l s : List Nat} (h : Ns w e pv wl nb wv l W) (hr : W'.ownsRow nb 5 1 wv' (l.length + s.length) (l.map enc8 ++ s.map enc8)) (hg : W.grownBy W' wv.ownBlock) : Ns w e pv wl nb wv' (l ++ s) W' := by
  have hge := own_ge h.b.r
  exact ⟨h.p.keep (keep_grown hg) (fun q => by have := hge e q; have := h.pe; omega) (fun g hg' q => by have := hge g q; have := h.pb g hg'; omega) (fun i hi q => by have := hge i q; have := h.b.n; omega), h.b.grow hr hg, h.pe, h.pb⟩
/-- A row of words of the call's own, beside. -/
structure Ms (w : World) (nb : Nat) (mv : Value) (m : List Nat) (W : World) : Prop where
  r : W.ownsRow nb 27 1 mv m.length (m.map enc64)
theorem leB_snoc (x k : Nat) (h : k < 8) : (leB 8 x).take (k + 1) = (leB 8 x).take k ++ [x / 256 ^ k % 256] := by
  rw [List.take_add_one, leB_get 8 x k h]; rfl
theorem word_info : ∃ i, Try.prog.info? 27 = some i ∧ i.zero = some (.int .u64 0) ∧ i.size = 1 ∧ i.bytes = 8 := by
  have h : (Try.prog.info? 27).map (fun i => (i.zero, i.size, i.bytes)) = some (some (.int .u64 0), 1, 8) := by kernel_rfl
  obtain ⟨i, hi, he⟩ := Option.map_eq_some_iff.1 h
  simp only [Prod.mk.injEq] at he
  exact ⟨i, hi, he.1, he.2.1, he.2.2⟩
theorem row_owns64 {w : World} {base : Nat} {e : TypeId} {v : Value} {n : Nat} {l : List Nat} (h : w.ownsRow base e 1 v n (l.map enc64)) : Row w enc64 v l := by
  have hn : n = l.length := by have := h.1; simpa using this.symm
  subst hn
  by_cases h0 : 0 < l.length
  · obtain ⟨g, cap, sp, rfl, _, hc, _, hb⟩ := sl_form h h0
    refine .inr ⟨⟨g, 0, none⟩, cap, rfl, hc, fun i x hi => ?_⟩
    rw [add_off]
    refine hb.cellAt ?_
    have hl : i < (l.map enc64).length := by rw [List.length_map]; exact (List.getElem?_eq_some_iff.1 hi).1
    rw [Nat.zero_add, List.getElem?_append_left hl, List.getElem?_map, hi]
    rfl
  · obtain ⟨a, cap, hv⟩ := own_form h
    have e : l = [] := List.eq_nil_of_length_eq_zero (by omega)
    subst e
    rcases h.2 with ⟨hv, _⟩ | ⟨g, cap, cur, hv, _, _, hc, _⟩
    · exact .inl ⟨hv, rfl⟩
    · exact .inr ⟨_, cap, hv, hc, fun i x hi => by simp at hi⟩
theorem Ns.keep {S : Nat → Prop} {w W W' : World} {e nb M : Nat} {pv wv : Value} {wl l : List Nat} (h : Ns w e pv wl nb wv l W) (k : Keep S W W') (hM : nb ≤ M) (hv : ∀ g, wv.ownBlock = some g → g < M) (hS : ∀ i, i < M → ¬ S i) : Ns w e pv wl nb wv l W' :=
  ⟨h.p.keep k (hS e (by have := h.pe; omega)) (fun g hg => hS g (by have := h.pb g hg; omega)) (fun i hi => hS i (by have := h.b.n; omega)),
   ⟨Keep.belowB h.b.bel k h.b.bel.size (fun i hi => hS i (by have := h.b.n; omega)), h.b.n, Nat.le_trans h.b.m k.size, sl_keep h.b.r k (fun g hg => hS g (hv g hg))⟩, h.pe, h.pb⟩
/-- .. while a row of words stands in the blocks from nm to nn. -/
structure Nm (w : World) (e : Nat) (pv : Value) (wl : List Nat) (nb : Nat) (wv : Value) (l : List Nat) (nm nn : Nat) (W6 W : World) : Prop where
  n : Ns w e pv wl nb wv l W
  o : ∀ g, wv.ownBlock = some g → ¬ (nm ≤ g ∧ g < nn)
  k : Keep (fun i => ¬ (nm ≤ i ∧ i < nn)) W6 W
  le : nn ≤ W6.heap.size
theorem Nm.grow {w W W1 W2 W6 : World} {e nb nm nn : Nat} {pv wv wv' : Value} {wl l s : List Nat} (h : Nm w e pv wl nb wv l nm nn W6 W) (b : Below W.heap.size W W1) (hr : W2.ownsRow nb 5 1 wv' (l.length + s.length) (l.map enc8 ++ s.map enc8)) (hg : W1.grownBy W2 wv.ownBlock) (ho : wv'.ownBlock = wv.ownBlock ∨ wv'.ownBlock = some W1.heap.size) :
    Nm w e pv wl nb wv' (l ++ s) nm nn W6 W2 := by
  refine ⟨(h.n.step b).grow hr hg, fun g hg' => ?_, ?_, h.le⟩
  · rcases ho with h1 | h1
    · rw [h1] at hg'; exact h.o g hg'
    · rw [h1] at hg'
      have e1 : W1.heap.size = g := by injection hg'
      have := h.le; have := h.k.size; have := b.size
      omega
  · exact (h.k.step (S' := fun _ => False) (Keep.of_below b) (fun _ _ q => q.elim)).step (keep_grown hg) (fun i _ q => h.o i q)
theorem built_byte (y : Int) : Try.prog.builtSlice 5 1 [(0, .int .u8 y)] = some #[.int .u8 y] := by kernel_rfl
theorem built_word (y : Int) : Try.prog.builtSlice 27 1 [(0, .int .u64 y)] = some #[.int .u64 y] := by kernel_rfl
theorem shr_byte (x k : Nat) : (x : Int) / 2 ^ (8 * k) % 256 = ((x / 256 ^ k % 256 : Nat) : Int) := by
  rw [Int.pow_mul]
  simp
set_option maxRecDepth 8000 in
set_option maxHeartbeats 16000000 in
theorem nums_walk (v0 v1 v2 : Value) (a3 : Int) (w : World) (f0 : Aid.Fits w (.slice (.int .u64)) [v0]) (f1 : Aid.Fits w (.slice (.int .u64)) [v1]) (f2 : Aid.Fits w (.slice (.int .u8)) [v2]) (w3 : (Lit.int .u8 a3).wf = true) :
    Calls Try.prog 7 #[v0, v1, v2, .int .u8 a3] w fun e w' => e = .returned (.bool true) ∧ Below w.heap.size w w' := by
  obtain ⟨ws, r0, hw8, hwm⟩ := words_row f0
  obtain ⟨ns, r1, hn8, hnm⟩ := words_row f1
  obtain ⟨ps, r2, hp8, hpm⟩ := bytes_row f2
  obtain ⟨cu, rfl, hcu⟩ := Bits.wf_u8 w3
  obtain ⟨aw, cw, rfl⟩ := r0.form
  obtain ⟨an, cn, rfl⟩ := r1.form
  obtain ⟨ap, cp, rfl⟩ := r2.form
  unfold maxLen at hwm hnm hpm
  have RW := Lib.hid (fun (W : World) (h : Below w.heap.size w W) => r0.below h)
  have RN := Lib.hid (fun (W : World) (h : Below w.heap.size w W) => r1.below h)
  have RP := Lib.hid (fun (W : World) (h : Below w.heap.size w W) => r2.below h)
  have HW8 := Lib.hid hw8
  have HN8 := Lib.hid hn8
  have HP8 := Lib.hid hp8
  have hwm1 : (ws.length : Int) ≤ 9223372036854775807 := by omega
  have hnm1 : (ns.length : Int) ≤ 9223372036854775807 := by omega
  have hpm1 : (ps.length : Int) ≤ 9223372036854775807 := by omega
  have HCU := Lib.hid hcu
  clear r0 r1 r2 f0 f1 f2 w3 hw8 hn8 hp8 hwm hnm hpm hcu
  by_cases hbig : 10 < ws.length ∨ 20 < ns.length ∨ 60 < ps.length
  · have hd : decide (10 < (ws.length : Int)) = true ∨ (decide (10 < (ws.length : Int)) = false ∧ decide (20 < (ns.length : Int)) = true) ∨ (decide (10 < (ws.length : Int)) = false ∧ decide (20 < (ns.length : Int)) = false ∧ decide (60 < (ps.length : Int)) = true) := by
      by_cases h : 10 < ws.length
      · exact .inl (decide_eq_true (by omega))
      · by_cases h2 : 20 < ns.length
        · exact .inr (.inl ⟨decide_eq_false (by omega), decide_eq_true (by omega)⟩)
        · exact .inr (.inr ⟨decide_eq_false (by omega), decide_eq_false (by omega), decide_eq_true (by omega)⟩)
    clear hbig
    rcases hd with h1 | ⟨h1, h2⟩ | ⟨h1, h2, h3⟩
    all_goals
      go_enter Try.func7, Try.ntmps7
      go_wp2_with fail
      refine (awake_calls _).mono ?_
      rintro e wa ⟨rfl, ua⟩
      have BA := Lib.hid ua
      clear ua
      go_wp2_with fail
      refine (awake_calls _).mono ?_
      rintro e wb ⟨rfl, ub⟩
      have BB := Lib.hid (BA.out.trans (ub.mono BA.out.size))
      clear ub
      go_wp2_with fail
      go_ret
      exact ⟨rfl, BB.out⟩
  · have h1 : decide (10 < (ws.length : Int)) = false := decide_eq_false (by omega)
    have h2 : decide (20 < (ns.length : Int)) = false := decide_eq_false (by omega)
    have h3 : decide (60 < (ps.length : Int)) = false := decide_eq_false (by omega)
    have LW := Lib.hid (show ws.length ≤ 10 by omega)
    have LN := Lib.hid (show ns.length ≤ 20 by omega)
    have LP := Lib.hid (show ps.length ≤ 60 by omega)
    clear hbig
    go_enter Try.func7, Try.ntmps7
    go_wp2_with fail
    refine (awake_calls _).mono ?_
    rintro e wa ⟨rfl, ua⟩
    have BA := Lib.hid ua
    clear ua
    have P0 := Lib.hid (show Pn w wa.heap.size (.slice none 0 0) [] (wa.alloc (.cells #[.slice none 0 0] 46)) from ⟨BA.out.alloc BA.out.size _, BA.out.size, Blk.new wa _ _, World.ownsRow_nil _ _ _ _⟩)
    go_upto_region 4 with (fail)
    clear h1 h2 h3
    generalize wa.alloc (.cells #[.slice none 0 0] 46) = w1 at *
    generalize wa.heap.size = pe at *
    have KR := Lib.hid (fun (W W' : World) (v : Value) (l : List Nat) (h : Pn w pe v l W) (k : Keep (PnS pe v) W W') => show Below w.heap.size w W' from Keep.belowB h.bel k h.bel.size (fun i hi q => by
      have h1 := h.n
      rcases q with q | q
      · omega
      · have := own_ge h.r i q; omega))
    have C1 := Lib.hid (words_calls P0.out _ ws (fun W' k => RW.out W' (KR.out _ _ _ _ P0.out k)) (by have := LW.out; omega) (by simp))
    rw [List.nil_append] at C1
    have LWE := Lib.hid (wordsE_len ws)
    have LNE := Lib.hid (numsE_len HN8.out)
    generalize hwe : wordsE ws = we at *
    have HWE := Lib.hid hwe
    clear hwe
    go_upto_region 5 with (first | (go_at_call 18; refine C1.out.mono ?_; rintro e w2 ⟨v2, rfl, p2, k2⟩; have P2 := Lib.hid p2; clear p2 k2) | (go_at_call 19; refine (nums_calls P2.out _ ns (fun W' k => RN.out W' (KR.out _ _ _ _ P2.out k)) (by have := LN.out; omega) (by have := LWE.out; have := LW.out; omega) HN8.out).mono ?_; rintro e w3 ⟨v3, rfl, p3, k3⟩; have P3 := Lib.hid p3; clear p3 k3) | (go_at_call 20; refine (penBytes_calls P3.out _ ps (fun W' k => RP.out W' (KR.out _ _ _ _ P3.out k)) (by have := LP.out; omega) (by rw [List.length_append]; have := LWE.out; have := LW.out; have := LNE.out; have := LN.out; omega)).mono ?_; rintro e w4 ⟨v4, rfl, p4, k4⟩; have P4 := Lib.hid p4; clear p4 k4))
    generalize hWT : we ++ numsE ns ++ (numE ps.length ++ ps) = WT at *
    have HWT := Lib.hid hWT
    have N0 := Lib.hid (show Ns w pe v4 WT w4.heap.size (.slice none 0 0) [] w4 from ⟨P4.out, Bs.nil P4.out.bel, P4.out.c.lt, fun g hg => (World.ownsRow.lt P4.out.r g hg).2⟩)
    clear hWT P0 P2 P3 P4 C1 BA KR
    generalize w4.heap.size = nb at *
    obtain ⟨ii, hii, hz, hs, hb⟩ := byte_info
    have HI := Lib.hid hii
    have HZ := Lib.hid hz
    have HSz := Lib.hid hs
    have HBy := Lib.hid hb
    clear hii hz hs hb
    go_upto_region 7 with (fail)
    go_loopw [10, 11] (fun sv iv wx => ∃ (i : Nat), i ≤ ws.length ∧ iv = .int .i64 i ∧ Ns w pe v4 WT nb sv (wordsE (ws.take i)) wx) (fun _ iv _ => ws.length - (intOf iv).toNat)
    case atStart => exact ⟨0, Nat.zero_le _, rfl, N0.out⟩
    case round =>
      obtain ⟨i, hi, rfl, hnx⟩ := hrel
      have N1 := Lib.hid hnx
      clear hnx N0
      have hi0 : 0 ≤ (i : Int) := by omega
      by_cases hlt : i < ws.length
      · have hii : (i : Int) < (ws.length : Int) := by omega
        obtain ⟨x, hx⟩ : ∃ x, ws[i]? = some x := ⟨_, List.getElem?_eq_getElem hlt⟩
        obtain ⟨ad, rfl, RC⟩ : ∃ ad, aw = some ad ∧ Hid (∀ W, Below w.heap.size w W → W.cell? (ad.add i) = some (.int .u64 (x : Int))) := by
          rcases RW.out _ N1.out.b.bel with ⟨h, h0⟩ | ⟨ad, c', h, _, hc⟩
          · rw [h0] at hlt; simp at hlt
          · injection h with h1 _ _
            refine ⟨ad, h1, Lib.hid fun W hb => ?_⟩
            subst h1
            rcases RW.out W hb with ⟨h, h0⟩ | ⟨ad', c'', h, _, hc'⟩
            · cases h
            · injection h with h1 _ _
              injection h1 with h1
              rw [h1]
              exact hc' i x hx
        have SN := Lib.hid (show wordsE (ws.take (i + 1)) = wordsE (ws.take i) ++ leB 8 x from by rw [wordsE_snoc ws i hlt]; congr 2; rw [List.getElem?_eq_getElem hlt] at hx; exact Option.some.inj hx)
        have LI := Lib.hid (show (wordsE (ws.take i)).length ≤ 80 from by rw [wordsE_len, List.length_take]; have := LW.out; omega)
        generalize wordsE (ws.take i) = acc at *
        clear hx hlt
        go_upto_region 10 with (fail)
        go_loopw [10, 12] (fun sv kv wx => ∃ (k : Nat), k ≤ 8 ∧ kv = .int .i64 k ∧ Ns w pe v4 WT nb sv (acc ++ (leB 8 x).take k) wx) (fun _ kv _ => 8 - (intOf kv).toNat)
        case atStart => exact ⟨0, by omega, rfl, by rw [List.take_zero, List.append_nil]; exact N1.out⟩
        case round =>
          obtain ⟨k, hk, rfl, hnx⟩ := hrel
          have N2 := Lib.hid hnx
          clear hnx N1
          have hk0 : 0 ≤ (k : Int) := by omega
          by_cases hk8 : k < 8
          · have hki : (k : Int) < 8 := by omega
            have hcx := RC.out _ N2.out.b.bel
            have SK := Lib.hid (leB_snoc x k hk8)
            have hw8 : IntKind.i64.wrap (8 * (k : Int)) = 8 * (k : Int) := by rw [IntKind.wrap_i64]; omega
            obtain ⟨bk, hbk0⟩ : ∃ bk, x / 256 ^ k % 256 = bk := ⟨_, rfl⟩
            have hbk : (x : Int) / 2 ^ (8 * k) % 256 = (bk : Int) := by rw [shr_byte, hbk0]
            rw [hbk0] at SK
            clear hbk0 hk8
            obtain ⟨b1, c1, hv1⟩ := own_form N2.out.b.r
            subst hv1
            have LA := Lib.hid (show (acc ++ (leB 8 x).take k).length ≤ 100 from by rw [List.length_append, List.length_take]; have := LI.out; omega)
            have N3 := Lib.hid (N2.out.step ((Below.refl wr.heap.size wr).alloc (Nat.le_refl _) (.cells #[.int .u8 (bk : Int)] 5)))
            have RX := Lib.hid (row_byte1 wr bk)
            have PRE := Lib.hid (show acc ++ (leB 8 x).take (k + 1) = (acc ++ (leB 8 x).take k) ++ [bk] from by rw [SK.out, List.append_assoc])
            generalize acc ++ (leB 8 x).take k = pre at *
            as_aux_lemma =>
              go_upto_region 12 with (fail)
              go_wp2_with (first | ((with_reducible refine bslice_gate (68) ?_); refine Go.Great.wpList_buildSliceTo rfl 22 5 1 _ rfl wr.heap.size rfl (some 68) rfl Try.underlying22 #[.int .u8 (bk : Int)] (by rw [Array.toList_map]; exact built_byte _) ?_) | (at_builtin; refine wpList_append_row enc8_one (by rfl) (.tmp 59) (.tmp 68) 22 (by rfl) nb 5 ii _ 1 Try.underlying22 HI.out HZ.out HSz.out HBy.out (by rfl) (.slice b1 pre.length c1) pre.length _ (by rfl) N3.out.b.r _ [bk] (by rfl) RX.out (by have := LA.out; simp; unfold maxLen; omega) (by have := LA.out; simp; omega) N3.out.b.m ?_; intro v5 w5 h5 g5 o5; have N5 := Lib.hid (N3.out.grow h5 g5); clear h5 g5 o5))
              go_roundw
              case rel => first | exact ⟨k + 1, by omega, by go_num, by rw [PRE.out]; exact N5.out⟩ | ((repeat apply Exists.intro); exact ⟨⟨k + 1, by omega, by go_num, by rw [PRE.out]; exact N5.out⟩, rfl⟩)
              case measure => first | (simp only [intOf]; omega) | (simp [intOf]; omega)
          · have hki : ¬ (k : Int) < 8 := by omega
            have N3 := Lib.hid (show Ns w pe v4 WT nb u10 (wordsE (ws.take (i + 1))) wr from by
              have h := N2.out
              rw [show k = 8 by omega, List.take_of_length_le (by rw [leB_length]; exact Nat.le_refl 8)] at h
              rw [SN.out]; exact h)
            clear N2
            as_aux_lemma =>
              go_wp2
              go_roundw
              case rel => first | exact ⟨i + 1, by omega, by go_num, N3.out⟩ | ((repeat apply Exists.intro); exact ⟨⟨i + 1, by omega, by go_num, N3.out⟩, rfl⟩)
              case measure => first | (simp only [intOf]; omega) | (simp [intOf]; omega)
      · have hii : ¬ (i : Int) < (ws.length : Int) := by omega
        have N3 := Lib.hid (show Ns w pe v4 WT nb u10 we wr from by
          have h := N1.out
          rw [show i = ws.length by omega, List.take_of_length_le (Nat.le_refl _), HWE.out] at h
          exact h)
        clear N1
        have M3 := Lib.hid (fun g hg => N3.out.b.lt g hg)
        have MB := Lib.hid (show nb ≤ wr.heap.size from N3.out.b.m)
        have WS := Lib.hid (show w.heap.size ≤ wr.heap.size from N3.out.b.bel.size)
        have RNN := Lib.hid (RN.out wr N3.out.b.bel)
        obtain ⟨jj, hjj, hz6, hs6, hb6⟩ := word_info
        have GI := Lib.hid hjj
        have GZ := Lib.hid hz6
        have GS := Lib.hid hs6
        have GB := Lib.hid hb6
        clear hjj hz6 hs6 hb6
        have hpw : IntKind.u64.wrap (ps.length : Int) = (ps.length : Int) := by rw [IntKind.wrap_u64]; have := LP.out; omega
        go_upto_region 13 with (fail)
        go_cut [13] from 70 to 70 (fun mv wx => Ns w pe v4 WT nb u10 we wx ∧ wx.ownsRow wr.heap.size 27 1 mv (ns.length + 1) ((ns ++ [ps.length]).map enc64))
        case first =>
          as_aux_lemma =>
            go_wp2_with (first | ((with_reducible refine bslice_gate (75) ?_); refine Go.Great.wpList_buildSliceTo rfl 43 27 1 _ rfl w5.heap.size rfl (some 75) rfl Try.underlying43 #[.int .u64 (ps.length : Int)] (by rw [Array.toList_map]; exact built_word _) ?_) | (at_builtin; refine wpList_append_row enc64_one (by rfl) (.const (.slice none 0 0)) (.tmp 70) 43 (by rfl) wr.heap.size 27 jj _ 8 Try.underlying43 GI.out GZ.out GS.out GB.out (by rfl) (.slice none 0 0) 0 [] (by rfl) (World.ownsRow_nil _ _ _ _) _ ns (by rfl) RNN.out (by have := LN.out; unfold maxLen; omega) (by have := LN.out; omega) (Nat.le_refl _) ?_; intro v5 w5 h5 g5 o5; have N5 := Lib.hid (N3.out.step (Keep.below (keep_grown g5) (fun _ _ e => by cases e))); have S5 := Lib.hid g5.size; rw [Nat.zero_add, List.nil_append] at h5; have H5 := Lib.hid h5; obtain ⟨a5, c5, rfl⟩ := own_form h5; clear h5 g5 o5) | (at_builtin; refine wpList_append_row enc64_one (by rfl) (.tmp 71) (.tmp 75) 43 (by rfl) wr.heap.size 27 jj _ 8 Try.underlying43 GI.out GZ.out GS.out GB.out (by rfl) (.slice a5 ns.length c5) ns.length _ (by rfl) (sl_below H5.out ((Below.refl _ _).alloc (Nat.le_refl _) _)) (.slice (some ⟨w5.heap.size, 0, none⟩) 1 1) [ps.length] (by rfl) (Row.of_blk (Blk.new w5 #[.int .u64 (ps.length : Int)] 27) (enc := enc64) (l := [ps.length])) (by have := LN.out; simp; unfold maxLen; omega) (by have := LN.out; simp; omega) (Nat.le_trans S5.out (by simp)) ?_; intro v6 w6 h6 g6 o6; have N6 := Lib.hid ((N5.out.step ((Below.refl w5.heap.size w5).alloc (Nat.le_refl _) (.cells #[.int .u64 (ps.length : Int)] 27))).keep (keep_grown g6) MB.out M3.out (fun i hi e => by have := own_ge H5.out i e; omega)); have H6 := Lib.hid h6; clear h6 g6 o6))
            go_meet
            exact ⟨N6.out, by rw [List.map_append]; exact H6.out⟩
        obtain ⟨n6, h6⟩ := hcut
        have EL := Lib.hid (show (ns ++ [ps.length]).length = ns.length + 1 by simp)
        have E64 := Lib.hid (show ∀ x ∈ ns ++ [ps.length], x < 2 ^ 64 from fun x hx => by
          rcases List.mem_append.1 hx with h | h
          · exact HN8.out x h
          · rw [List.mem_singleton] at h; subst h; have := LP.out; omega)
        have RM := Lib.hid (fun (W' : World) (k : Keep (fun i => ¬ (wr.heap.size ≤ i ∧ i < wc.heap.size)) wc W') => row_owns64 (sl_keep h6 k (fun g hg hn => hn (World.ownsRow.lt h6 g hg))))
        have N7 := Lib.hid (show Nm w pe v4 WT nb u10 we wr.heap.size wc.heap.size wc wc from ⟨n6, fun g hg hh => by have := M3.out g hg; omega, Keep.refl _ _, Nat.le_refl _⟩)
        obtain ⟨ma, mc, hmv⟩ := own_form h6
        have LWE2 := Lib.hid (show we.length ≤ 80 by have := LWE.out; have := LW.out; omega)
        clear n6 N3 M3 MB WS RNN GI GZ GS GB h6
        subst hmv
        generalize wr.heap.size = nm at *
        have HML := Lib.hid (show (ns ++ [ps.length]).length ≤ 21 by rw [EL.out]; have := LN.out; omega)
        generalize hml : ns ++ [ps.length] = ml at *
        have HMLE := Lib.hid hml
        rw [show ns.length + 1 = ml.length from EL.out.symm] at *
        clear hml hii hi hi0 hlt
        have hml1 : (ml.length : Int) ≤ 21 := by have := HML.out; omega
        go_upto_region 15 with (fail)
        go_loopw [10, 14] (fun sv iv wx => ∃ (i : Nat), i ≤ ml.length ∧ iv = .int .i64 i ∧ Nm w pe v4 WT nb sv (we ++ numsE (ml.take i)) nm wc.heap.size wc wx) (fun _ iv _ => ml.length - (intOf iv).toNat)
        case atStart => exact ⟨0, Nat.zero_le _, rfl, by show Nm w pe v4 WT nb _ (we ++ []) nm _ wc wc; rw [List.append_nil]; exact N7.out⟩
        case round =>
          obtain ⟨i, hi, rfl, hnx⟩ := hrel
          have N8 := Lib.hid hnx
          clear hnx N7
          have hi0 : 0 ≤ (i : Int) := by omega
          by_cases hlt : i < ml.length
          · have hii : (i : Int) < (ml.length : Int) := by omega
            obtain ⟨ad, rfl, hcp⟩ : ∃ ad, ma = some ad ∧ wr.cell? (ad.add i) = some (.int .u64 ((ml[i] : Nat) : Int)) := by
              rcases RM.out _ N8.out.k with ⟨h, h0⟩ | ⟨ad, c', h, _, hc⟩
              · rw [h0] at hlt; simp at hlt
              · injection h with h1 _ _
                exact ⟨ad, h1, hc i _ (List.getElem?_eq_getElem hlt)⟩
            have SN := Lib.hid (numsE_snoc ml i hlt)
            have X64 := Lib.hid (E64.out ml[i] (List.getElem_mem hlt))
            have LI := Lib.hid (show (we ++ numsE (ml.take i)).length ≤ 300 by
              have h1 := numsE_len (ws := ml.take i) (fun x hx => E64.out x (List.mem_of_mem_take hx))
              rw [List.length_append]; rw [List.length_take] at h1; have := LWE2.out; have := HML.out; omega)
            generalize ml[i] = x at *
            generalize hacc : we ++ numsE (ml.take i) = acc at *
            have HAC := Lib.hid hacc
            clear hacc hlt
            go_upto_region 18 with (fail)
            clear hcp
            go_loopw [10, 15] (fun sv yv wx => ∃ (y : Nat) (a2 : List Nat), y ≤ x ∧ yv = .int .u64 y ∧ Nm w pe v4 WT nb sv a2 nm wc.heap.size wc wx ∧ a2 ++ numE y = acc ++ numE x) (fun _ yv _ => (intOf yv).toNat)
            case atStart => exact ⟨x, acc, Nat.le_refl _, rfl, N8.out, rfl⟩
            case round =>
              obtain ⟨y, pre, hyx, rfl, hn2, he⟩ := hrel
              have NM2 := Lib.hid hn2
              have HE := Lib.hid he
              have LA := Lib.hid (show pre.length ≤ 310 by
                have h1 := congrArg List.length he
                rw [List.length_append, List.length_append] at h1
                have := numE_len10 X64.out; have := LI.out; omega)
              clear hn2 he N8
              obtain ⟨b1, c1, hv1⟩ := own_form NM2.out.n.b.r
              subst hv1
              have hy0 : 0 ≤ (y : Int) := by omega
              by_cases hy : y < 128
              · have hyi : ¬ (127 : Int) < (y : Int) := by omega
                have hyj : (y : Int) ≤ 127 := by omega
                have hm : (y : Int) % 256 = (y : Int) := by omega
                have EA := Lib.hid (show pre ++ [y] = we ++ numsE (ml.take (i + 1)) from by rw [SN.out, ← List.append_assoc, HAC.out, ← HE.out, numE_small hy])
                have N3 := Lib.hid (NM2.out.n.step ((Below.refl wr.heap.size wr).alloc (Nat.le_refl _) (.cells #[.int .u8 (y : Int)] 5)))
                have RX := Lib.hid (row_byte1 wr y)
                clear hy
                as_aux_lemma =>
                  go_upto_region 21 with (fail)
                  clear hyi
                  go_wp2_with (first | ((with_reducible refine bslice_gate (101) ?_); refine Go.Great.wpList_buildSliceTo rfl 22 5 1 _ rfl wr.heap.size rfl (some 101) rfl Try.underlying22 #[.int .u8 (y : Int)] (by rw [Array.toList_map]; exact built_byte _) ?_) | (at_builtin; refine wpList_append_row enc8_one (by rfl) (.tmp 98) (.tmp 101) 22 (by rfl) nb 5 ii _ 1 Try.underlying22 HI.out HZ.out HSz.out HBy.out (by rfl) (.slice b1 pre.length c1) pre.length _ (by rfl) N3.out.b.r _ [y] (by rfl) RX.out (by have := LA.out; simp; unfold maxLen; omega) (by have := LA.out; simp; omega) N3.out.b.m ?_; intro v5 w5 h5 g5 o5; have N5 := Lib.hid (NM2.out.grow ((Below.refl wr.heap.size wr).alloc (Nat.le_refl _) (.cells #[.int .u8 (y : Int)] 5)) h5 g5 o5); clear h5 g5 o5))
                  rw [EA.out] at N5
                  go_roundw
                  case rel => first | exact ⟨i + 1, by omega, by go_num, N5.out⟩ | ((repeat apply Exists.intro); exact ⟨⟨i + 1, by omega, by go_num, N5.out⟩, rfl⟩)
                  case measure => first | (simp only [intOf]; omega) | (simp [intOf]; omega)
              · have hyi : (127 : Int) < (y : Int) := by omega
                obtain ⟨z, hz, hz2⟩ : ∃ z, y % 128 = z ∧ z < 128 := ⟨_, rfl, by omega⟩
                obtain ⟨d, hd⟩ : ∃ d, y / 128 = d := ⟨_, rfl⟩
                obtain ⟨bb, hbb⟩ : ∃ bb, z + 128 = bb := ⟨_, rfl⟩
                have hzi : (y : Int) % 128 = (z : Int) := by omega
                have hzj : (z : Int) % 256 = (z : Int) := by omega
                have hbi : (z : Int) + 128 = (bb : Int) := by omega
                have hbw : (bb : Int) % 256 = (bb : Int) := by omega
                have hdv : (y : Int) / 128 = (d : Int) := by omega
                have hdw : IntKind.u64.wrap (d : Int) = (d : Int) := by rw [IntKind.wrap_u64]; have := X64.out; omega
                have hdt : (y : Int).tdiv 128 = (d : Int) := by rw [Int.tdiv_eq_ediv_of_nonneg hy0]; exact hdv
                have hmt : (y : Int).tmod 128 = (z : Int) := by rw [Int.tmod_eq_emod_of_nonneg hy0]; exact hzi
                have EA := Lib.hid (show (pre ++ [bb]) ++ numE d = acc ++ numE x from by rw [← hbb, ← hz, ← hd, List.append_assoc, List.singleton_append, ← numE_big hy, HE.out])
                have HYX := Lib.hid (show d ≤ x by omega)
                have HYL := Lib.hid (show d < y by omega)
                have N3 := Lib.hid (NM2.out.n.step ((Below.refl wr.heap.size wr).alloc (Nat.le_refl _) (.cells #[.int .u8 (bb : Int)] 5)))
                have RX := Lib.hid (row_byte1 wr bb)
                clear hy hz hz2 hbb hd
                as_aux_lemma =>
                  go_upto_region 19 with (fail)
                  go_wp2_with (first | ((with_reducible refine bslice_gate (94) ?_); refine Go.Great.wpList_buildSliceTo rfl 22 5 1 _ rfl wr.heap.size rfl (some 94) rfl Try.underlying22 #[.int .u8 (bb : Int)] (by rw [Array.toList_map]; exact built_byte _) ?_) | (at_builtin; refine wpList_append_row enc8_one (by rfl) (.tmp 89) (.tmp 94) 22 (by rfl) nb 5 ii _ 1 Try.underlying22 HI.out HZ.out HSz.out HBy.out (by rfl) (.slice b1 pre.length c1) pre.length _ (by rfl) N3.out.b.r _ [bb] (by rfl) RX.out (by have := LA.out; simp; unfold maxLen; omega) (by have := LA.out; simp; omega) N3.out.b.m ?_; intro v5 w5 h5 g5 o5; have N5 := Lib.hid (NM2.out.grow ((Below.refl wr.heap.size wr).alloc (Nat.le_refl _) (.cells #[.int .u8 (bb : Int)] 5)) h5 g5 o5); clear h5 g5 o5))
                  go_roundw
                  case rel => first | exact ⟨d, _, HYX.out, by first | go_num | rfl, N5.out, EA.out⟩ | ((repeat apply Exists.intro); exact ⟨⟨d, _, HYX.out, by first | go_num | rfl, N5.out, EA.out⟩, rfl⟩)
                  case measure => first | (have := HYL.out; simp only [intOf]; omega) | (have := HYL.out; simp [intOf]; omega)
          · have hii : ¬ (i : Int) < (ml.length : Int) := by omega
            have N9 := Lib.hid (show Ns w pe v4 WT nb u10 (we ++ numsE ml) wr from by
              have h := N8.out.n
              rw [show i = ml.length by omega, List.take_of_length_le (Nat.le_refl _)] at h
              exact h)
            clear N8 RM
            have WTE := Lib.hid (show (we ++ numsE ml) ++ ps = WT from by
              rw [← HWT.out, ← HMLE.out]
              unfold numsE
              rw [List.flatMap_append]
              simp)
            have LPRE := Lib.hid (show (we ++ numsE ml).length ≤ 300 by
              have h1 := numsE_len E64.out
              rw [List.length_append]; have := LWE2.out; have := HML.out; omega)
            generalize we ++ numsE ml = pre at *
            obtain ⟨b1, c1, hv1⟩ := own_form N9.out.b.r
            subst hv1
            have RX := Lib.hid (RP.out wr N9.out.b.bel)
            clear hi hi0 hlt
            go_upto_region 22 with (fail)
            go_cut [10] from 103 to 103 (fun sv wx => Ns w pe v4 WT nb sv WT wx)
            case first =>
              as_aux_lemma =>
                go_wp2_with (at_builtin; refine wpList_append_row enc8_one (by rfl) (.tmp 103) (.tmp 104) 22 (by rfl) nb 5 ii _ 1 Try.underlying22 HI.out HZ.out HSz.out HBy.out (by rfl) (.slice b1 pre.length c1) pre.length _ (by rfl) N9.out.b.r _ ps (by rfl) RX.out (by have := LPRE.out; have := LP.out; unfold maxLen; omega) (by have := LPRE.out; have := LP.out; omega) N9.out.b.m ?_; intro v5 w5 h5 g5 o5; have N5 := Lib.hid (N9.out.grow h5 g5); clear h5 g5 o5)
                go_meet
                rw [WTE.out] at N5
                exact N5.out
            have NA := Lib.hid hcut
            have LT0 := Lib.hid (show 0 < WT.length by rw [← HWT.out, List.length_append, List.length_append, List.length_append]; have := numE_pos ps.length; omega)
            have LT1 := Lib.hid (show WT.length ≤ 360 by rw [← WTE.out, List.length_append]; have := LPRE.out; have := LP.out; omega)
            clear hcut N9 RX LPRE WTE
            obtain ⟨b2, c2, hv2⟩ := own_form NA.out.b.r
            subst hv2
            obtain ⟨b3, c3, hv3⟩ := own_form NA.out.p.r
            subst hv3
            have s1 := fun n => run_string (P := Try.prog) (wc.drewN n) 22 9 5 Try.underlying22 Try.underlying5 Try.underlying9 _ _ ((row_owns NA.out.p.r).drewN n)
            have s2 := fun n => run_string (P := Try.prog) (wc.drewN n) 22 9 5 Try.underlying22 Try.underlying5 Try.underlying9 _ _ ((row_owns NA.out.b.r).drewN n)
            have c0 := NA.out.p.c.cellAt (i := 0) rfl
            generalize strOf WT = S1 at *
            have NA2 := Lib.hid (fun q => NA.out.step (Heap.below_drewN (Below.refl wc.heap.size wc) q))
            go_upto_region 23 with (fail)
            clear hii NA EL E64 HML hml1
            go_quiet (fail)
            clear c0 s1 s2
            generalize hL : WT.length = L at *
            have HL := Lib.hid hL
            have hL0 : 0 < (L : Int) := by have := LT0.out; omega
            have hL1 : (L : Int) ≤ 360 := by have := LT1.out; omega
            have NB := Lib.hid (NA2.out nq)
            clear NA2 hL
            generalize wc.drewN nq = wd at *
            have hcu0 : 0 ≤ (cu : Int) := by omega
            have hcu1 : (cu : Int) ≤ 255 := by have := HCU.out; omega
            go_upto_if 117 with (fail)
            go_cut [16] from 116 to 122 (fun s wx => s = .int .i64 ((if 0 < cu then cu % L else L : Nat) : Int) ∧ wd = wx)
            case first =>
              as_aux_lemma =>
                by_cases hc : 0 < cu
                · have hci : (0 : Int) < (cu : Int) := by omega
                  obtain ⟨km, hkm⟩ : ∃ km, cu % L = km := ⟨_, rfl⟩
                  have e1 : (cu : Int) % (L : Int) = (km : Int) := by omega
                  have e2 : (cu : Int).tmod (L : Int) = (km : Int) := by rw [Int.tmod_eq_emod_of_nonneg hcu0]; exact e1
                  have HC := Lib.hid hc
                  have HKM := Lib.hid hkm
                  clear hc hkm
                  go_wp2_with fail
                  go_meet
                  exact ⟨by rw [if_pos HC.out, HKM.out], rfl⟩
                · have hci : ¬ (0 : Int) < (cu : Int) := by omega
                  have HC := Lib.hid hc
                  clear hc
                  go_wp2_with fail
                  go_meet
                  exact ⟨by rw [if_neg HC.out], rfl⟩
            obtain ⟨rfl, rfl⟩ := hcut
            obtain ⟨kk, hkk⟩ : ∃ kk, (if 0 < cu then cu % L else L) = kk := ⟨_, rfl⟩
            have KL := Lib.hid (show kk ≤ L from by
              rw [← hkk]
              split
              · exact Nat.le_of_lt (Nat.mod_lt _ LT0.out)
              · exact Nat.le_refl _)
            rw [hkk]
            clear hkk
            obtain ⟨ad, rfl, hcL⟩ : ∃ ad, b2 = some ad ∧ L ≤ c2 := by
              rcases NB.out.b.row with ⟨h, h0⟩ | ⟨ad, c', h, hc, _⟩
              · exfalso; have h1 := HL.out; have h2 := LT0.out; rw [h0] at h1; simp at h1; omega
              · simp only [Value.slice.injEq] at h
                exact ⟨ad, h.1, by rw [← HL.out, h.2.2]; exact hc⟩
            have hkk0 : 0 ≤ (kk : Int) := by omega
            have hkc : (kk : Int) ≤ (c2 : Int) := by have := KL.out; omega
            have hkL : (kk : Int) ≤ (L : Int) := by have := KL.out; omega
            have WTL := Lib.hid (show ∀ x ∈ WT, x < 256 from by
              intro x hx
              rw [← HWT.out] at hx
              rcases List.mem_append.1 hx with h | h
              · rcases List.mem_append.1 h with h | h
                · rw [← HWE.out] at h; exact wordsE_lt _ x h
                · exact numsE_lt _ x h
              · rcases List.mem_append.1 h with h | h
                · exact numE_lt _ _ (Nat.le_refl _) x h
                · exact HP8.out x h)
            have E0 := Lib.hid (eye_new NB.out.b HL.out KL.out WTL.out (by have := LT1.out; omega))
            go_upto_region 29 with (go_at_call 11; refine (newEye_calls _ _ _ _).mono ?_; rintro e w5 ⟨rfl, rfl⟩)
            clear NB WTL
            generalize wd.alloc _ = we1 at *
            generalize wd.heap.size = ey at *
            go_upto_region 31 with (fail)
            clear hkk0 hkc hkL hcL
            have WS8 := HW8
            go_loopw [18, 19] (fun okv iv wx => ∃ (i : Nat) (ok : Bool) (l : List Nat) (bad : Bool), i ≤ ws.length ∧ iv = .int .i64 i ∧ okv = .bool ok ∧ Er w ey l bad wx ∧ StR WT kk (8 * i) l bad ∧ (kk = L → ok = true)) (fun _ iv _ => ws.length - (intOf iv).toNat)
            case atStart => exact ⟨0, true, _, false, Nat.zero_le _, rfl, rfl, E0.out, st_start _ _, fun _ => rfl⟩
            case round =>
              obtain ⟨i, ok, l, bad, hi, rfl, rfl, he, hs, hk⟩ := hrel
              have E1 := Lib.hid he
              have S0 := Lib.hid hs
              have K1 := Lib.hid hk
              clear he hs hk E0
              have hi0 : 0 ≤ (i : Int) := by omega
              by_cases hlt : i < ws.length
              · have hii : (i : Int) < (ws.length : Int) := by omega
                obtain ⟨x, hx⟩ : ∃ x, ws[i]? = some x := ⟨_, List.getElem?_eq_getElem hlt⟩
                obtain ⟨ax, rfl, RC⟩ : ∃ ax, aw = some ax ∧ Hid (∀ W, Below w.heap.size w W → W.cell? (ax.add i) = some (.int .u64 (x : Int))) := by
                  rcases RW.out _ E1.out.bel with ⟨h, h0⟩ | ⟨ax, c', h, _, hc⟩
                  · rw [h0] at hlt; simp at hlt
                  · injection h with h1 _ _
                    refine ⟨ax, h1, Lib.hid fun W hb => ?_⟩
                    subst h1
                    rcases RW.out W hb with ⟨h, h0⟩ | ⟨ad', c'', h, _, hc'⟩
                    · cases h
                    · injection h with h1 _ _
                      injection h1 with h1
                      rw [h1]
                      exact hc' i x hx
                have hxe : ws[i] = x := by rw [List.getElem?_eq_getElem hlt] at hx; exact Option.some.inj hx
                have hx64 : x < 2 ^ 64 := by rw [← hxe]; exact HW8.out _ (List.getElem_mem hlt)
                have S1 := Lib.hid (st_word (rest := wordsE (ws.drop (i + 1)) ++ (numsE ns ++ (numE ps.length ++ ps))) S0.out (by rw [HL.out]; exact KL.out) (by rw [← HWT.out, ← HWE.out, List.append_assoc, wordsE_drop ws i hlt, hxe]) (by have := ofB_leB8 hx64; rw [List.take_of_length_le (by rw [leB_length]; exact Nat.le_refl 8)] at this; exact this))
                have E6 := Lib.hid (E1.out.step (show Below wr.heap.size wr wr.drew from Heap.below_drewN (Below.refl wr.heap.size wr) 1))
                have Q6 : Hid (Cw (ax.add i) x wr.drew) := ⟨RC.out _ E6.out.bel⟩
                obtain ⟨vy, hvy⟩ := E6.out.y
                have WC := Lib.hid (word_calls hvy)
                rw [show 8 * i + 8 = 8 * (i + 1) by omega] at S1
                generalize rdW l bad = rd at *
                obtain ⟨n, l2, b2⟩ := rd
                simp only at WC S1
                clear hvy S0 E1 hx hxe hx64 hlt
                go_upto_region 33 with (fail)
                as_aux_lemma =>
                  refine wp_region_noPanic ?_
                  refine wp_region_held_drew (S := fun w' => Cw (ax.add i) x w') (by kernel_rfl) Q6.out (fun hHeld => ?_)
                  refine quiet_post (fun _ _ _ _ _ h => h) (fun hQ => ?_)
                  have HQP := Lib.hid hQ
                  clear hQ
                  generalize wr.drew = w6 at *
                  refine wpAnyH_take (i := 0) (oi := ⟨some 133, _, _, _, _, _⟩) (v := .pointer (some ⟨ey, 0, none⟩)) rfl (by kernel_rfl) (by kernel_rfl) (by kernel_rfl) (fun c _ _ h => HQP.out c _ _ _ _ h) (Or.inl ⟨by rfl, fun w' hSw => by go_simp⟩) (by assumption) ?_
                  simp only [Act.put, List.setIfInBounds_toArray, List.set_cons_zero, List.set_cons_succ]
                  refine wpAnyH_take (i := 2) (oi := ⟨some 135, _, _, _, _, _⟩) (v := .slice (some ax) ws.length cw) rfl (by kernel_rfl) (by kernel_rfl) (by kernel_rfl) (fun c _ _ h => HQP.out c _ _ _ _ h) (Or.inl ⟨by rfl, fun w' hSw => by go_simp⟩) (by assumption) ?_
                  simp only [Act.put, List.setIfInBounds_toArray, List.set_cons_zero, List.set_cons_succ]
                  refine wpAnyH_take (i := 3) (oi := ⟨some 136, _, _, _, _, _⟩) (v := .int .i64 (i : Int)) rfl (by kernel_rfl) (by kernel_rfl) (by kernel_rfl) (fun c _ _ h => HQP.out c _ _ _ _ h) (Or.inl ⟨by rfl, fun w' hSw => by go_simp⟩) (by assumption) ?_
                  simp only [Act.put, List.setIfInBounds_toArray, List.set_cons_zero, List.set_cons_succ]
                  refine wpAnyH_take (i := 4) (oi := ⟨some 137, _, _, _, _, _⟩) (v := .pointer (some (ax.add i))) rfl (by kernel_rfl) (by kernel_rfl) (by kernel_rfl) (fun c _ _ h => HQP.out c _ _ _ _ h) (Or.inl ⟨by rfl, fun w' hSw => by go_simp⟩) (by assumption) ?_
                  simp only [Act.put, List.setIfInBounds_toArray, List.set_cons_zero, List.set_cons_succ]
                  refine wpAnyH_take (i := 5) (oi := ⟨some 138, _, _, _, _, _⟩) (v := .int .u64 (x : Int)) rfl (by kernel_rfl) (by kernel_rfl) (by kernel_rfl) (fun c _ _ h => HQP.out c _ _ _ _ h) (Or.inl ⟨by rfl, fun w' hSw => by have q := hSw.c; go_simp⟩) (by assumption) ?_
                  simp only [Act.put, List.setIfInBounds_toArray, List.set_cons_zero, List.set_cons_succ]
                  refine wpAnyH_ready (rs := [1]) (by kernel_rfl) (by simp) ?_
                  refine AllReadyH.cons (o := ⟨some 134, _, _, _, _, _⟩) rfl (fun K hK => ?_) AllReadyH.nil
                  go_simp
                  go_at_call 21
                  refine WC.out.mono ?_
                  rintro en w7 ⟨v7, rfl, k7, y7⟩
                  have E7 := Lib.hid (E6.out.next k7 y7)
                  have Q7 : Hid (Cw (ax.add i) x w7) := ⟨RC.out w7 E7.out.bel⟩
                  clear k7 y7
                  refine hK.out _ _ Q7.out (fun hHeld => ?_)
                  clear hK K
                  try simp only [Act.put, List.setIfInBounds_toArray, List.set_cons_zero, List.set_cons_succ]
                  obtain ⟨bq, hbq⟩ : ∃ bq, ((n : Int) == (x : Int)) = bq := ⟨_, rfl⟩
                  have OKQ := Lib.hid (show kk = L → (bq && ok) = true from fun e => by rw [K1.out e, Bool.and_true, ← hbq, S1.out.2 (e.trans HL.out.symm)]; simp)
                  refine wpAnyH_take (i := 6) (oi := ⟨some 139, _, _, _, _, _⟩) (v := .bool bq) rfl (by kernel_rfl) (by kernel_rfl) (by kernel_rfl) (fun c _ _ h => HQP.out c _ _ _ _ h) (Or.inl ⟨by rfl, fun w' hSw => by go_simp⟩) (by assumption) ?_
                  simp only [Act.put, List.setIfInBounds_toArray, List.set_cons_zero, List.set_cons_succ]
                  clear hbq
                  cases bq with
                  | true =>
                    refine wpAnyH_take (i := 7) (oi := ⟨some 140, _, _, _, _, _⟩) (v := .bool true) rfl (by kernel_rfl) (by kernel_rfl) (by kernel_rfl) (fun c _ _ h => HQP.out c _ _ _ _ h) (Or.inl ⟨by rfl, fun w' hSw => by go_simp⟩) (by assumption) ?_
                    simp only [Act.put, List.setIfInBounds_toArray, List.set_cons_zero, List.set_cons_succ]
                    refine wpAnyH_take (i := 8) (oi := ⟨some 141, _, _, _, _, _⟩) (v := .bool ok) rfl (by kernel_rfl) (by kernel_rfl) (by kernel_rfl) (fun c _ _ h => HQP.out c _ _ _ _ h) (Or.inl ⟨by rfl, fun w' hSw => by go_simp⟩) (by assumption) ?_
                    simp only [Act.put, List.setIfInBounds_toArray, List.set_cons_zero, List.set_cons_succ]
                    refine wpAnyH_take (i := 9) (oi := ⟨some 142, _, _, _, _, _⟩) (v := .bool ok) rfl (by kernel_rfl) (by kernel_rfl) (by kernel_rfl) (fun c _ _ h => HQP.out c _ _ _ _ h) (Or.inl ⟨by rfl, fun w' hSw => by go_simp⟩) (by assumption) ?_
                    simp only [Act.put, List.setIfInBounds_toArray, List.set_cons_zero, List.set_cons_succ]
                    refine wpAnyH_take (i := 10) (oi := ⟨some 18, _, _, _, _, _⟩) (v := .bool ok) rfl (by kernel_rfl) (by kernel_rfl) (by kernel_rfl) (fun c _ _ h => HQP.out c _ _ _ _ h) (Or.inl ⟨by rfl, fun w' hSw => by go_simp⟩) (by assumption) ?_
                    simp only [Act.put, List.setIfInBounds_toArray, List.set_cons_zero, List.set_cons_succ]
                    refine wpAnyH_done (by kernel_rfl) ?_ _
                    refine NoPanic.normal ?_
                    try simp only [Act.put, List.setIfInBounds_toArray, List.set_cons_zero, List.set_cons_succ]
                    go_wp2
                    go_roundw
                    case rel => first | exact ⟨i + 1, ok, l2, b2, by omega, by go_num, rfl, E7.out, S1.out.1, fun e => OKQ.out e⟩ | ((repeat apply Exists.intro); exact ⟨⟨i + 1, ok, l2, b2, by omega, by go_num, rfl, E7.out, S1.out.1, fun e => OKQ.out e⟩, rfl⟩)
                    case measure => first | (simp only [intOf]; omega) | (simp [intOf]; omega)
                  | false =>
                    refine wpAnyH_take (i := 7) (oi := ⟨some 140, _, _, _, _, _⟩) (v := .bool false) rfl (by kernel_rfl) (by kernel_rfl) (by kernel_rfl) (fun c _ _ h => HQP.out c _ _ _ _ h) (Or.inl ⟨by rfl, fun w' hSw => by go_simp⟩) (by assumption) ?_
                    simp only [Act.put, List.setIfInBounds_toArray, List.set_cons_zero, List.set_cons_succ]
                    refine wpAnyH_take (i := 8) (oi := ⟨some 141, _, _, _, _, _⟩) (v := undef) rfl (by kernel_rfl) (by kernel_rfl) (by kernel_rfl) (fun c _ _ h => HQP.out c _ _ _ _ h) (Or.inr ⟨by rfl, rfl⟩) (by assumption) ?_
                    simp only [Act.put, List.setIfInBounds_toArray, List.set_cons_zero, List.set_cons_succ]
                    refine wpAnyH_take (i := 9) (oi := ⟨some 142, _, _, _, _, _⟩) (v := .bool false) rfl (by kernel_rfl) (by kernel_rfl) (by kernel_rfl) (fun c _ _ h => HQP.out c _ _ _ _ h) (Or.inl ⟨by rfl, fun w' hSw => by go_simp⟩) (by assumption) ?_
                    simp only [Act.put, List.setIfInBounds_toArray, List.set_cons_zero, List.set_cons_succ]
                    refine wpAnyH_take (i := 10) (oi := ⟨some 18, _, _, _, _, _⟩) (v := .bool false) rfl (by kernel_rfl) (by kernel_rfl) (by kernel_rfl) (fun c _ _ h => HQP.out c _ _ _ _ h) (Or.inl ⟨by rfl, fun w' hSw => by go_simp⟩) (by assumption) ?_
                    simp only [Act.put, List.setIfInBounds_toArray, List.set_cons_zero, List.set_cons_succ]
                    refine wpAnyH_done (by kernel_rfl) ?_ _
                    refine NoPanic.normal ?_
                    try simp only [Act.put, List.setIfInBounds_toArray, List.set_cons_zero, List.set_cons_succ]
                    go_wp2
                    go_roundw
                    case rel => first | exact ⟨i + 1, false, l2, b2, by omega, by go_num, rfl, E7.out, S1.out.1, fun e => absurd (OKQ.out e) (by simp)⟩ | ((repeat apply Exists.intro); exact ⟨⟨i + 1, false, l2, b2, by omega, by go_num, rfl, E7.out, S1.out.1, fun e => absurd (OKQ.out e) (by simp)⟩, rfl⟩)
                    case measure => first | (simp only [intOf]; omega) | (simp [intOf]; omega)
              · have hii : ¬ (i : Int) < (ws.length : Int) := by omega
                have eiw : i = ws.length := by omega
                rw [eiw] at S0
                rw [show 8 * ws.length = we.length from LWE.out.symm] at S0
                clear eiw hlt hi
                go_upto_region 35 with (fail)
                go_loopw [18, 20] (fun okv iv wx => ∃ (i : Nat) (ok : Bool) (l : List Nat) (bad : Bool), i ≤ ns.length ∧ iv = .int .i64 i ∧ okv = .bool ok ∧ Er w ey l bad wx ∧ StR WT kk (we.length + (numsE (ns.take i)).length) l bad ∧ (kk = L → ok = true)) (fun _ iv _ => ns.length - (intOf iv).toNat)
                case atStart => exact ⟨0, ok, l, bad, Nat.zero_le _, rfl, rfl, E1.out, by rw [List.take_zero]; exact S0.out, K1.out⟩
                case round =>
                  clear S0 E1 K1
                  obtain ⟨i, ok, l, bad, hi, rfl, rfl, he, hs, hk⟩ := hrel
                  have E1 := Lib.hid he
                  have S0 := Lib.hid hs
                  have K1 := Lib.hid hk
                  clear he hs hk
                  have hi0 : 0 ≤ (i : Int) := by omega
                  by_cases hlt : i < ns.length
                  · have hii : (i : Int) < (ns.length : Int) := by omega
                    obtain ⟨x, hx⟩ : ∃ x, ns[i]? = some x := ⟨_, List.getElem?_eq_getElem hlt⟩
                    obtain ⟨ax, rfl, RC⟩ : ∃ ax, an = some ax ∧ Hid (∀ W, Below w.heap.size w W → W.cell? (ax.add i) = some (.int .u64 (x : Int))) := by
                      rcases RN.out _ E1.out.bel with ⟨h, h0⟩ | ⟨ax, c', h, _, hc⟩
                      · rw [h0] at hlt; simp at hlt
                      · injection h with h1 _ _
                        refine ⟨ax, h1, Lib.hid fun W hb => ?_⟩
                        subst h1
                        rcases RN.out W hb with ⟨h, h0⟩ | ⟨ad', c'', h, _, hc'⟩
                        · cases h
                        · injection h with h1 _ _
                          injection h1 with h1
                          rw [h1]
                          exact hc' i x hx
                    have hxe : ns[i] = x := by rw [List.getElem?_eq_getElem hlt] at hx; exact Option.some.inj hx
                    have hx64 : x < 2 ^ 64 := by rw [← hxe]; exact HN8.out _ (List.getElem_mem hlt)
                    have S1 := Lib.hid (st_num (most := 18446744073709551615) (rest := numsE (ns.drop (i + 1)) ++ (numE ps.length ++ ps)) S0.out (by rw [HL.out]; exact KL.out) (by rw [← hxe]; exact numsE_drop WT we ns _ i hlt HWT.out.symm) hx64 (by omega))
                    have E6 := Lib.hid (E1.out.step (show Below wr.heap.size wr wr.drew from Heap.below_drewN (Below.refl wr.heap.size wr) 1))
                    have Q6 : Hid (Cw (ax.add i) x wr.drew) := ⟨RC.out _ E6.out.bel⟩
                    obtain ⟨vy, hvy⟩ := E6.out.y
                    have WC := Lib.hid (show Calls Try.prog 12 #[.pointer (some ⟨ey, 0, none⟩), .int .u64 18446744073709551615] wr.drew (NumP wr.drew ey (numS l bad 18446744073709551615)) from num_any hvy 18446744073709551615)
                    rw [show we.length + (numsE (ns.take i)).length + (numE x).length = we.length + (numsE (ns.take (i + 1))).length by rw [numsE_snoc ns i hlt, hxe, List.length_append]; omega] at S1
                    generalize numS l bad 18446744073709551615 = rd at *
                    obtain ⟨n, l2, b2⟩ := rd
                    simp only at WC S1
                    clear hvy S0 E1 hx hxe hx64 hlt
                    go_upto_region 37 with (fail)
                    as_aux_lemma =>
                      refine wp_region_noPanic ?_
                      refine wp_region_held_drew (S := fun w' => Cw (ax.add i) x w') (by kernel_rfl) Q6.out (fun hHeld => ?_)
                      refine quiet_post (fun _ _ _ _ _ h => h) (fun hQ => ?_)
                      have HQP := Lib.hid hQ
                      clear hQ
                      generalize wr.drew = w6 at *
                      refine wpAnyH_take (i := 0) (oi := ⟨some 149, _, _, _, _, _⟩) (v := .pointer (some ⟨ey, 0, none⟩)) rfl (by kernel_rfl) (by kernel_rfl) (by kernel_rfl) (fun c _ _ h => HQP.out c _ _ _ _ h) (Or.inl ⟨by rfl, fun w' hSw => by go_simp⟩) (by assumption) ?_
                      simp only [Act.put, List.setIfInBounds_toArray, List.set_cons_zero, List.set_cons_succ]
                      refine wpAnyH_take (i := 2) (oi := ⟨some 151, _, _, _, _, _⟩) (v := .slice (some ax) ns.length cn) rfl (by kernel_rfl) (by kernel_rfl) (by kernel_rfl) (fun c _ _ h => HQP.out c _ _ _ _ h) (Or.inl ⟨by rfl, fun w' hSw => by go_simp⟩) (by assumption) ?_
                      simp only [Act.put, List.setIfInBounds_toArray, List.set_cons_zero, List.set_cons_succ]
                      refine wpAnyH_take (i := 3) (oi := ⟨some 152, _, _, _, _, _⟩) (v := .int .i64 (i : Int)) rfl (by kernel_rfl) (by kernel_rfl) (by kernel_rfl) (fun c _ _ h => HQP.out c _ _ _ _ h) (Or.inl ⟨by rfl, fun w' hSw => by go_simp⟩) (by assumption) ?_
                      simp only [Act.put, List.setIfInBounds_toArray, List.set_cons_zero, List.set_cons_succ]
                      refine wpAnyH_take (i := 4) (oi := ⟨some 153, _, _, _, _, _⟩) (v := .pointer (some (ax.add i))) rfl (by kernel_rfl) (by kernel_rfl) (by kernel_rfl) (fun c _ _ h => HQP.out c _ _ _ _ h) (Or.inl ⟨by rfl, fun w' hSw => by go_simp⟩) (by assumption) ?_
                      simp only [Act.put, List.setIfInBounds_toArray, List.set_cons_zero, List.set_cons_succ]
                      refine wpAnyH_take (i := 5) (oi := ⟨some 154, _, _, _, _, _⟩) (v := .int .u64 (x : Int)) rfl (by kernel_rfl) (by kernel_rfl) (by kernel_rfl) (fun c _ _ h => HQP.out c _ _ _ _ h) (Or.inl ⟨by rfl, fun w' hSw => by have q := hSw.c; go_simp⟩) (by assumption) ?_
                      simp only [Act.put, List.setIfInBounds_toArray, List.set_cons_zero, List.set_cons_succ]
                      refine wpAnyH_ready (rs := [1]) (by kernel_rfl) (by simp) ?_
                      refine AllReadyH.cons (o := ⟨some 150, _, _, _, _, _⟩) rfl (fun K hK => ?_) AllReadyH.nil
                      go_simp
                      go_at_call 12
                      refine WC.out.mono ?_
                      rintro en w7 ⟨v7, rfl, k7, y7⟩
                      have E7 := Lib.hid (E6.out.next k7 y7)
                      have Q7 : Hid (Cw (ax.add i) x w7) := ⟨RC.out w7 E7.out.bel⟩
                      clear k7 y7
                      refine hK.out _ _ Q7.out (fun hHeld => ?_)
                      clear hK K
                      try simp only [Act.put, List.setIfInBounds_toArray, List.set_cons_zero, List.set_cons_succ]
                      obtain ⟨bq, hbq⟩ : ∃ bq, ((n : Int) == (x : Int)) = bq := ⟨_, rfl⟩
                      have OKQ := Lib.hid (show kk = L → (bq && ok) = true from fun e => by rw [K1.out e, Bool.and_true, ← hbq, S1.out.2 (e.trans HL.out.symm)]; simp)
                      refine wpAnyH_take (i := 6) (oi := ⟨some 155, _, _, _, _, _⟩) (v := .bool bq) rfl (by kernel_rfl) (by kernel_rfl) (by kernel_rfl) (fun c _ _ h => HQP.out c _ _ _ _ h) (Or.inl ⟨by rfl, fun w' hSw => by go_simp⟩) (by assumption) ?_
                      simp only [Act.put, List.setIfInBounds_toArray, List.set_cons_zero, List.set_cons_succ]
                      clear hbq
                      cases bq with
                      | true =>
                        refine wpAnyH_take (i := 7) (oi := ⟨some 156, _, _, _, _, _⟩) (v := .bool true) rfl (by kernel_rfl) (by kernel_rfl) (by kernel_rfl) (fun c _ _ h => HQP.out c _ _ _ _ h) (Or.inl ⟨by rfl, fun w' hSw => by go_simp⟩) (by assumption) ?_
                        simp only [Act.put, List.setIfInBounds_toArray, List.set_cons_zero, List.set_cons_succ]
                        refine wpAnyH_take (i := 8) (oi := ⟨some 157, _, _, _, _, _⟩) (v := .bool ok) rfl (by kernel_rfl) (by kernel_rfl) (by kernel_rfl) (fun c _ _ h => HQP.out c _ _ _ _ h) (Or.inl ⟨by rfl, fun w' hSw => by go_simp⟩) (by assumption) ?_
                        simp only [Act.put, List.setIfInBounds_toArray, List.set_cons_zero, List.set_cons_succ]
                        refine wpAnyH_take (i := 9) (oi := ⟨some 158, _, _, _, _, _⟩) (v := .bool ok) rfl (by kernel_rfl) (by kernel_rfl) (by kernel_rfl) (fun c _ _ h => HQP.out c _ _ _ _ h) (Or.inl ⟨by rfl, fun w' hSw => by go_simp⟩) (by assumption) ?_
                        simp only [Act.put, List.setIfInBounds_toArray, List.set_cons_zero, List.set_cons_succ]
                        refine wpAnyH_take (i := 10) (oi := ⟨some 18, _, _, _, _, _⟩) (v := .bool ok) rfl (by kernel_rfl) (by kernel_rfl) (by kernel_rfl) (fun c _ _ h => HQP.out c _ _ _ _ h) (Or.inl ⟨by rfl, fun w' hSw => by go_simp⟩) (by assumption) ?_
                        simp only [Act.put, List.setIfInBounds_toArray, List.set_cons_zero, List.set_cons_succ]
                        refine wpAnyH_done (by kernel_rfl) ?_ _
                        refine NoPanic.normal ?_
                        try simp only [Act.put, List.setIfInBounds_toArray, List.set_cons_zero, List.set_cons_succ]
                        go_wp2
                        go_roundw
                        case rel => first | exact ⟨i + 1, ok, l2, b2, by omega, by go_num, rfl, E7.out, S1.out.1, fun e => OKQ.out e⟩ | ((repeat apply Exists.intro); exact ⟨⟨i + 1, ok, l2, b2, by omega, by go_num, rfl, E7.out, S1.out.1, fun e => OKQ.out e⟩, rfl⟩)
                        case measure => first | (simp only [intOf]; omega) | (simp [intOf]; omega)
                      | false =>
                        refine wpAnyH_take (i := 7) (oi := ⟨some 156, _, _, _, _, _⟩) (v := .bool false) rfl (by kernel_rfl) (by kernel_rfl) (by kernel_rfl) (fun c _ _ h => HQP.out c _ _ _ _ h) (Or.inl ⟨by rfl, fun w' hSw => by go_simp⟩) (by assumption) ?_
                        simp only [Act.put, List.setIfInBounds_toArray, List.set_cons_zero, List.set_cons_succ]
                        refine wpAnyH_take (i := 8) (oi := ⟨some 157, _, _, _, _, _⟩) (v := undef) rfl (by kernel_rfl) (by kernel_rfl) (by kernel_rfl) (fun c _ _ h => HQP.out c _ _ _ _ h) (Or.inr ⟨by rfl, rfl⟩) (by assumption) ?_
                        simp only [Act.put, List.setIfInBounds_toArray, List.set_cons_zero, List.set_cons_succ]
                        refine wpAnyH_take (i := 9) (oi := ⟨some 158, _, _, _, _, _⟩) (v := .bool false) rfl (by kernel_rfl) (by kernel_rfl) (by kernel_rfl) (fun c _ _ h => HQP.out c _ _ _ _ h) (Or.inl ⟨by rfl, fun w' hSw => by go_simp⟩) (by assumption) ?_
                        simp only [Act.put, List.setIfInBounds_toArray, List.set_cons_zero, List.set_cons_succ]
                        refine wpAnyH_take (i := 10) (oi := ⟨some 18, _, _, _, _, _⟩) (v := .bool false) rfl (by kernel_rfl) (by kernel_rfl) (by kernel_rfl) (fun c _ _ h => HQP.out c _ _ _ _ h) (Or.inl ⟨by rfl, fun w' hSw => by go_simp⟩) (by assumption) ?_
                        simp only [Act.put, List.setIfInBounds_toArray, List.set_cons_zero, List.set_cons_succ]
                        refine wpAnyH_done (by kernel_rfl) ?_ _
                        refine NoPanic.normal ?_
                        try simp only [Act.put, List.setIfInBounds_toArray, List.set_cons_zero, List.set_cons_succ]
                        go_wp2
                        go_roundw
                        case rel => first | exact ⟨i + 1, false, l2, b2, by omega, by go_num, rfl, E7.out, S1.out.1, fun e => absurd (OKQ.out e) (by simp)⟩ | ((repeat apply Exists.intro); exact ⟨⟨i + 1, false, l2, b2, by omega, by go_num, rfl, E7.out, S1.out.1, fun e => absurd (OKQ.out e) (by simp)⟩, rfl⟩)
                        case measure => first | (simp only [intOf]; omega) | (simp [intOf]; omega)
                  · have hii : ¬ (i : Int) < (ns.length : Int) := by omega
                    have eiw : i = ns.length := by omega
                    rw [eiw, List.take_of_length_le (Nat.le_refl _)] at S0
                    clear eiw hlt hi
                    have S2 := Lib.hid (st_bytes (ps := ps) S0.out (by rw [HL.out]; exact KL.out) (by rw [← HWT.out, List.drop_left' (by rw [List.length_append])]) LP.out)
                    obtain ⟨vy, hvy⟩ := E1.out.y
                    have BC := Lib.hid (eyeBytes_calls hvy)
                    generalize rdB l bad 60 = rb at *
                    obtain ⟨q, l3, b3⟩ := rb
                    simp only at BC S2
                    clear hvy S0
                    go_upto_region 39 with (go_at_call 22; refine BC.out.mono ?_; rintro en w7 ⟨v7, v8, rfl, r7, k7, y7⟩; have R7 := Lib.hid r7; have E7 := Lib.hid (E1.out.next k7 y7); have Y7 := Lib.hid y7; clear r7 k7 y7)
                    obtain ⟨a7, c7, hv7⟩ := R7.out.form
                    subst hv7
                    clear BC E1 hii
                    by_cases hkl : kk < L
                    · have hkli : (kk : Int) < (L : Int) := by omega
                      obtain ⟨hq, hb⟩ := S2.out.2 (by rw [HL.out]; exact hkl)
                      (try simp only at hq hb)
                      subst hq
                      subst hb
                      simp only [List.length_nil]
                      clear S2 R7
                      have WC := Lib.hid (show Calls Try.prog 21 #[.pointer (some ⟨ey, 0, none⟩)] w7 (RdP w7 ey (0, l3, true)) from word_calls Y7.out)
                      have DC := Lib.hid (show Calls Try.prog 14 #[.pointer (some ⟨ey, 0, none⟩)] w7 fun en w' => en = .returned (.bool false) ∧ w7 = w' from done_calls Y7.out)
                      have NC := Lib.hid (fun (W : World) (v : Value) (h : Ey W ey v l3 true) => show Calls Try.prog 12 #[.pointer (some ⟨ey, 0, none⟩), .int .u64 9] W (NumP W ey (0, l3, true)) from num_any h 9)
                      as_aux_lemma =>
                        go_wp2_with (first | (go_at_call 13; refine (bad_calls Y7.out).mono ?_; rintro en w8 ⟨rfl, rfl⟩) | (go_at_call 14; refine DC.out.mono ?_; rintro en w8 ⟨rfl, rfl⟩) | (go_at_call 21; refine WC.out.mono ?_; rintro en w8 ⟨v9, rfl, k9, y9⟩; have E9 := Lib.hid (E7.out.next k9 y9); have Y9 := Lib.hid y9; clear k9 y9) | (go_at_call 12; refine (NC.out _ _ Y9.out).mono ?_; rintro en w9 ⟨v10, rfl, k10, y10⟩; have E10 := Lib.hid (E9.out.next k10 y10); clear k10 y10))
                        go_ret
                        exact ⟨ret_bool (by first | rfl | simp | trace_state), E10.out.bel⟩
                    · have hkli : ¬ (kk : Int) < (L : Int) := by omega
                      have ekl : kk = L := by have := KL.out; omega
                      obtain ⟨hq, hl3, hb⟩ := S2.out.1 (by rw [HL.out]; exact ekl)
                      (try simp only at hq hl3 hb)
                      subst hq
                      subst hl3
                      subst hb
                      obtain rfl : ok = true := K1.out ekl
                      clear S2 ekl hkl
                      have s1 := run_string (P := Try.prog) w7 22 9 5 Try.underlying22 Try.underlying5 Try.underlying9 _ _ R7.out
                      have s2 := run_string (P := Try.prog) w7 22 9 5 Try.underlying22 Try.underlying5 Try.underlying9 _ _ (RP.out w7 E7.out.bel)
                      have DC := Lib.hid (show Calls Try.prog 14 #[.pointer (some ⟨ey, 0, none⟩)] w7 fun en w' => en = .returned (.bool true) ∧ w7 = w' from done_calls Y7.out)
                      generalize strOf q = S1 at *
                      as_aux_lemma =>
                        go_wp2_with (first | (go_at_call 13; refine (bad_calls Y7.out).mono ?_; rintro en w8 ⟨rfl, rfl⟩) | (go_at_call 14; refine DC.out.mono ?_; rintro en w8 ⟨rfl, rfl⟩))
                        go_ret
                        exact ⟨ret_bool (by first | rfl | simp | trace_state), E7.out.bel⟩
end Go.Proofs.Ytpimjioamoaejaa.Walks
