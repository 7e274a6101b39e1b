/- Walks through the functions of the statement, and the statement over them: each contract says what the call answers and that nothing else changes. -/
import Derived.Test.YtpimjioamoaejaaProg
import Derived.Laws.BytesString
import Derived.Test.YtpimjioamoaejaaBits
import Derived.Test.YtpimjioamoaejaaHeap
import Derived.Test.YtpimjioamoaejaaAid
import Derived.Lib.Hide
import Derived.Test.YtpimjioamoaejaaArr
import Derived.Test.YtpimjioamoaejaaEql
import Derived.Test.YtpimjioamoaejaaWalkSums
import Derived.Test.YtpimjioamoaejaaWalkApp
import Derived.Test.YtpimjioamoaejaaWalkEye
import Derived.WalkKit
import Derived.WalkSpells
import Derived.WalkLawsBesides
import Derived.Deep.QuietTactic
import Derived.BigQuiet
import Derived.Deep.RegionHeld3
import Derived.Deep.DeepCutAuto
import Derived.Deep.CutBlock
import Derived.Lib.SlBytesConst
import Derived.StillTailTactics
import Derived.Laws.MakeOwn
import Derived.Deep.AppendLies
import Derived.Laws.CopyOwn
import Derived.Maps.AppendAt
import Derived.Deep.Upon
import Derived.Deep.AppendSrc
import Derived.RegionTactic
namespace Go.Proofs.Ytpimjioamoaejaa.Walks
set_option linter.unusedVariables false
set_option linter.unusedSimpArgs false
open Go.RowKit Go.Proofs.Ytpimjioamoaejaa.Bits Go.Proofs.Ytpimjioamoaejaa.Heap Go.Proofs.Ytpimjioamoaejaa.Aid Go.Proofs.Ytpimjioamoaejaa.Arr Go.Proofs.Ytpimjioamoaejaa.Eql

/-- A quiet call behind quiet regions. -/
theorem quiet_add_left {P : Program} {f : FuncId} {args : Array Value} {w : World} {a n : Nat} {v : Value}
    (h : Calls P f args (w.drewN (a + n)) fun e w' => e = .returned v ∧ w.drewN (a + n) = w') :
    Calls P f args (w.drewN (a + n)) fun e w'' => e = .returned v ∧ ∃ m, w'' = w.drewN (a + m) :=
  h.mono fun _ _ ⟨he, hm⟩ => ⟨he, n, hm.symm⟩
theorem quiet_left {P : Program} {f : FuncId} {args : Array Value} {w : World} {n : Nat} {v : Value}
    (h : Calls P f args (w.drewN n) fun e w' => e = .returned v ∧ w.drewN n = w') : Calls P f args (w.drewN n) fun e w'' => e = .returned v ∧ ∃ m, w'' = w.drewN m :=
  h.mono fun _ _ ⟨he, hm⟩ => ⟨he, n, hm.symm⟩
theorem quiet_add {P : Program} {f : FuncId} {args : Array Value} {w : World} {a n : Nat} {v : Value}
    (h : Calls P f args (w.drewN (a + n)) fun e w' => e = .returned v ∧ ∃ m, w' = (w.drewN (a + n)).drewN m) :
    Calls P f args (w.drewN (a + n)) fun e w'' => e = .returned v ∧ ∃ m, w'' = w.drewN (a + m) :=
  h.mono fun _ _ ⟨he, m, hm⟩ => ⟨he, n + m, by rw [hm, World.drewN_drewN, Nat.add_assoc]⟩
/-- A piece's bytes. -/
def bodyB (k : Nat) (b : List Nat) : List Nat := k :: (leB 4 b.length ++ b)
def pieceB (k : Nat) (b : List Nat) : List Nat := leB 4 (crc (bodyB k b)) ++ bodyB k b
def joinB : List (Nat × List Nat) → List Nat
  | [] => []
  | z :: r => pieceB z.1 z.2 ++ joinB r
/-- Bytes as pieces: or why not. -/
def partR : Nat → List Nat → Except Nat (List (Nat × List Nat))
  | 0, _ => .ok []
  | f + 1, r =>
    if r.length = 0 then .ok [] else if r.length < 9 then .error 5 else
    if r.length - 9 < ofB ((r.drop 5).take 4) then .error 5 else
    if ofB (r.take 4) ≠ crc ((r.drop 4).take (5 + ofB ((r.drop 5).take 4))) then .error 12 else
    match partR f (r.drop (9 + ofB ((r.drop 5).take 4))) with
    | .ok ps => .ok ((r.getD 4 0, (r.drop 9).take (ofB ((r.drop 5).take 4))) :: ps)
    | .error e => .error e
def preX (ps : List (Nat × List Nat)) : Except Nat (List (Nat × List Nat)) → Except Nat (List (Nat × List Nat))
  | .ok qs => .ok (ps ++ qs)
  | .error e => .error e
/-- So far. -/
def partJ (L : List Nat) (ps : List (Nat × List Nat)) (r : List Nat) : Prop := ∃ f, r.length ≤ f ∧ partR L.length L = preX ps (partR f r)
theorem partJ_zero (L : List Nat) : partJ L [] L := by
  refine ⟨L.length, Nat.le_refl _, ?_⟩
  cases partR L.length L <;> simp [preX]
theorem partJ_end {L r : List Nat} {ps : List (Nat × List Nat)} (h : partJ L ps r) (h0 : r.length = 0) : partR L.length L = .ok ps := by
  obtain ⟨f, _, h⟩ := h
  rw [h]
  cases f with
  | zero => simp [partR, preX]
  | succ f => rw [partR, if_pos h0]; simp [preX]
theorem partJ_short {L r : List Nat} {ps : List (Nat × List Nat)} (h : partJ L ps r) (h0 : 0 < r.length) (h9 : r.length < 9) : partR L.length L = .error 5 := by
  obtain ⟨f, hf, h⟩ := h
  rw [h]
  obtain ⟨f, rfl⟩ : ∃ k, f = k + 1 := ⟨f - 1, by omega⟩
  rw [partR, if_neg (by omega), if_pos h9]; rfl
theorem partJ_long {L r : List Nat} {ps : List (Nat × List Nat)} (h : partJ L ps r) (h9 : 9 ≤ r.length) (hn : r.length - 9 < ofB ((r.drop 5).take 4)) : partR L.length L = .error 5 := by
  obtain ⟨f, hf, h⟩ := h
  rw [h]
  obtain ⟨f, rfl⟩ : ∃ k, f = k + 1 := ⟨f - 1, by omega⟩
  rw [partR, if_neg (by omega), if_neg (by omega), if_pos hn]; rfl
theorem partJ_sum {L r : List Nat} {ps : List (Nat × List Nat)} (h : partJ L ps r) (h9 : 9 ≤ r.length) (hn : ¬ r.length - 9 < ofB ((r.drop 5).take 4)) (hs : ofB (r.take 4) ≠ crc ((r.drop 4).take (5 + ofB ((r.drop 5).take 4)))) : partR L.length L = .error 12 := by
  obtain ⟨f, hf, h⟩ := h
  rw [h]
  obtain ⟨f, rfl⟩ : ∃ k, f = k + 1 := ⟨f - 1, by omega⟩
  rw [partR, if_neg (by omega), if_neg (by omega), if_neg hn, if_pos hs]; rfl
theorem partJ_step {L r : List Nat} {ps : List (Nat × List Nat)} (h : partJ L ps r) (h9 : 9 ≤ r.length) (hn : ¬ r.length - 9 < ofB ((r.drop 5).take 4)) (hs : ofB (r.take 4) = crc ((r.drop 4).take (5 + ofB ((r.drop 5).take 4)))) :
    partJ L (ps ++ [(r.getD 4 0, (r.drop 9).take (ofB ((r.drop 5).take 4)))]) (r.drop (9 + ofB ((r.drop 5).take 4))) := by
  obtain ⟨f, hf, h⟩ := h
  obtain ⟨f, rfl⟩ : ∃ k, f = k + 1 := ⟨f - 1, by omega⟩
  refine ⟨f, by rw [List.length_drop]; omega, ?_⟩
  rw [h, partR, if_neg (by omega), if_neg (by omega), if_neg hn, if_neg (fun h => h hs)]
  cases partR f (r.drop (9 + ofB ((r.drop 5).take 4))) <;> simp [preX]
/-- A piece as it is read: its kind, its bytes, where they lie. -/
structure Pz where
  k : Nat
  b : List Nat
  a : Option Addr
  c : Nat
def Pz.v (z : Pz) : Value := .slice z.a z.b.length z.c
def Pz.cells (z : Pz) : List Value := [.int .u8 (z.k : Int), z.v]
def Pz.key (z : Pz) : Nat × List Nat := (z.k, z.b)
theorem pz2 : ∀ z : Pz, z.cells.length = 2 := fun _ => rfl
theorem row_sub {α : Type} {w : World} {enc : α → Value} {a : Addr} {n cap : Nat} {l : List α} (h : Row w enc (.slice (some a) n cap) l) (o m c : Nat) (ho : 0 < o) (hm : o + m ≤ l.length) (hc : m ≤ c) :
    Row w enc (.slice (some ⟨a.block, a.off + o, none⟩) m c) ((l.drop o).take m) := by
  rcases h with ⟨h, _⟩ | ⟨a', cap', h, hc', hcell⟩
  · cases h
  · injection h with h1 h2 h3
    injection h1 with h1
    subst h1
    refine .inr ⟨_, c, by rw [List.length_take, List.length_drop, Nat.min_eq_left (by omega)], by rw [List.length_take, List.length_drop]; omega, fun i x hi => ?_⟩
    have hi2 := (List.getElem?_eq_some_iff.1 hi).1
    rw [List.length_take, List.length_drop] at hi2
    rw [List.getElem?_take, if_pos (by omega), List.getElem?_drop] at hi
    rw [← hcell (o + i) x hi]
    congr 1
    unfold Addr.add
    by_cases h1 : i = 0
    · subst h1; rw [if_pos rfl, if_neg (by omega)]; rfl
    · rw [if_neg h1, if_neg (by omega)]
      simp only [Addr.mk.injEq, true_and, and_true]
      omega
theorem row_head {α : Type} {w : World} {enc : α → Value} {a : Addr} {n cap : Nat} {l : List α} (h : Row w enc (.slice (some a) n cap) l) (m c : Nat) (hm : m ≤ l.length) (hc : m ≤ c) :
    Row w enc (.slice (some a) m c) (l.take m) := by
  rcases h with ⟨h, _⟩ | ⟨a', cap', h, hc', hcell⟩
  · cases h
  · injection h with h1 h2 h3
    injection h1 with h1
    subst h1
    refine .inr ⟨_, c, by rw [List.length_take, Nat.min_eq_left (by omega)], by rw [List.length_take]; omega, fun i x hi => ?_⟩
    have hi2 := (List.getElem?_eq_some_iff.1 hi).1
    rw [List.length_take] at hi2
    rw [List.getElem?_take, if_pos (by omega)] at hi
    exact hcell i x hi
theorem row_nothing {α : Type} {w : World} {enc : α → Value} (a : Addr) (c : Nat) : Row w enc (.slice (some a) 0 c) [] := .inr ⟨a, c, rfl, Nat.zero_le _, fun i x hi => by simp at hi⟩
theorem leB4 (v : Nat) : (leB 4 v).map enc8 = [.int .u8 ((v : Int) % 256), .int .u8 ((v : Int) / 256 % 256), .int .u8 ((v : Int) / 65536 % 256), .int .u8 ((v : Int) / 16777216 % 256)] := by
  simp only [leB, enc8, List.map_cons, List.map_nil, Nat.div_div_eq_div_mul, Int.natCast_emod, Int.natCast_ediv]
  rfl
theorem leB4s {v : Nat} (h : v ≤ 1000) : (leB 4 v).map enc8 = [.int .u8 ((v : Int) % 256), .int .u8 ((v : Int) / 256), .int .u8 ((v : Int) / 65536), .int .u8 ((v : Int) / 16777216)] := by
  rw [leB4]
  rw [show (v : Int) / 256 % 256 = (v : Int) / 256 by omega, show (v : Int) / 65536 % 256 = (v : Int) / 65536 by omega, show (v : Int) / 16777216 % 256 = (v : Int) / 16777216 by omega]
theorem leB4w {v : Nat} (h : v < 4294967296) : (leB 4 v).map enc8 = [.int .u8 ((v : Int) % 256), .int .u8 ((v : Int) / 256 % 256), .int .u8 ((v : Int) / 65536 % 256), .int .u8 ((v : Int) / 16777216)] := by
  rw [leB4]
  rw [show (v : Int) / 16777216 % 256 = (v : Int) / 16777216 by omega]
theorem crc_lt (l : List Nat) (h : ∀ x ∈ l, x < 256) : crc l < 4294967296 := by unfold crc; omega
/-- What a call answers: bytes of its own. -/
def BytesP (w : World) (l : List Nat) (e : Ending) (w' : World) : Prop := ∃ v, e = .returned v ∧ Bs w w.heap.size v l w'
theorem Bs.new {w0 w w' : World} {base : Nat} {l : List Nat} (hb : Below w0.heap.size w0 w) (h1 : w0.heap.size ≤ base) (h2 : base ≤ w.heap.size) (hl : l.length ≤ 1000) (h : w' = w.alloc (.cells (l.map enc8).toArray 5)) : Bs w0 base (.slice (some ⟨w.heap.size, 0, none⟩) l.length l.length) l w' := by
  subst h
  refine ⟨hb.alloc hb.size _, h1, Nat.le_trans h2 (by simp), ?_⟩
  have h := owns_blk (Blk.new w (l.map enc8).toArray 5) h2 (by simp; unfold maxLen; omega)
  simpa using h
theorem body_lt {k : Nat} {l : List Nat} (hk : k < 256) (hx : ∀ x ∈ l, x < 256) : ∀ x ∈ bodyB k l, x < 256 := by
  intro x hxx
  unfold bodyB at hxx
  rw [List.mem_cons, List.mem_append] at hxx
  rcases hxx with rfl | h | h
  · exact hk
  · exact leB_lt _ _ _ h
  · exact hx _ h
theorem body_len (k : Nat) (l : List Nat) : (bodyB k l).length = 5 + l.length := by unfold bodyB; simp [leB_length]; omega
set_option maxHeartbeats 2000000 in
theorem one_calls (k : Nat) (hk : k < 256) (l : List Nat) (v : Value) (w : World) (hr : ∀ wx, Below w.heap.size w wx → Row wx enc8 v l) (hx : ∀ x ∈ l, x < 256) (hn : l.length ≤ 1000) :
    Calls Try.prog 15 #[.int .u8 (k : Int), v] w (BytesP w (pieceB k l)) := by
  obtain ⟨ii, hii, hz, hs, hb⟩ := byte_info
  have HI := Lib.hid hii
  have HZ := Lib.hid hz
  have HSz := Lib.hid hs
  have HBy := Lib.hid hb
  have HR := Lib.hid hr
  obtain ⟨a, cap, rfl⟩ := (hr w (Below.refl _ _)).form
  have h40 : 0 ≤ (l.length : Int) := by omega
  have h41 : (l.length : Int) ≤ 1000 := by omega
  have E5 : (k :: leB 4 l.length).map enc8 = [.int .u8 (k : Int), .int .u8 ((l.length : Int) % 256), .int .u8 ((l.length : Int) / 256), .int .u8 ((l.length : Int) / 65536), .int .u8 ((l.length : Int) / 16777216)] := by
    rw [List.map_cons, leB4s hn]; rfl
  have L5 : (k :: leB 4 l.length).length = 5 := by simp [leB_length]
  have B1 := Bs.new (w' := w.alloc (.cells ((k :: leB 4 l.length).map enc8).toArray 5)) (Below.refl _ w) (Nat.le_refl w.heap.size) (Nat.le_refl _) (by omega) rfl
  rw [L5] at B1
  have A1 := Lib.hid (HR.out _ B1.bel)
  have BL := Lib.hid (body_lt hk hx)
  have BN := Lib.hid (body_len k l)
  have LB := Lib.hid (show (k :: leB 4 l.length) ++ l = bodyB k l from rfl)
  have PB := Lib.hid (show leB 4 (crc (bodyB k l)) ++ bodyB k l = pieceB k l from rfl)
  have CL := Lib.hid (crc_lt _ (body_lt hk hx))
  have BG := Lib.hid (fun v' w' => @Bs.grow w _ w' _ _ v' _ l B1)
  rw [LB.out, L5] at BG
  have BM := Lib.hid B1.m
  have BR := Lib.hid B1.r
  rw [L5] at BR
  clear B1 hii hz hs hb hr hx hk HR
  generalize pieceB k l = PL at *
  generalize bodyB k l = BD at *
  generalize (k :: leB 4 l.length) = l5 at *
  rw [E5] at A1 BG BM BR
  clear E5 L5
  go_enter Try.func15, Try.ntmps15
  go_upto_region 2 with (at_builtin; refine wpList_append_row enc8_one (by rfl) _ _ _ (by rfl) w.heap.size 5 ii _ 1 Try.underlying22 HI.out HZ.out HSz.out HBy.out (by rfl) _ 5 _ (by rfl) BR.out _ l (by rfl) A1.out (by unfold maxLen; omega) (by omega) BM.out ?_; intro v2 w2 hown hgrow hat; have B2 := Lib.hid (BG.out _ _ hown hgrow); clear hown hgrow hat)
  have S2 := Lib.hid (refSum_calls BD v2 w2 B2.out.row BL.out (by have := BN.out; omega))
  have hc0 : 0 ≤ (crc BD : Int) := by omega
  have hc1 : (crc BD : Int) < 4294967296 := by have := CL.out; omega
  have E4 := leB4w CL.out
  have L4 : (leB 4 (crc BD)).length = 4 := leB_length _ _
  have B3 := Bs.new (w' := w2.alloc (.cells ((leB 4 (crc BD)).map enc8).toArray 5)) B2.out.bel (Nat.le_refl w.heap.size) B2.out.bel.size (by omega) rfl
  rw [L4] at B3
  have A3 := Lib.hid (B2.out.row.below ((Below.refl _ _).alloc (Nat.le_refl _) (.cells ((leB 4 (crc BD)).map enc8).toArray 5)))
  have CG := Lib.hid (fun v' w' => @Bs.grow w _ w' _ _ v' _ BD B3)
  rw [PB.out, L4] at CG
  have CM := Lib.hid B3.m
  have CR := Lib.hid B3.r
  rw [L4] at CR
  clear B3 BG BM BR A1 LB PB CL BL L4 B2
  generalize crc BD = C at *
  generalize leB 4 C = l4 at *
  rw [E4] at A3 CG CM CR
  clear E4
  obtain ⟨a2, cap2, hv2⟩ := A3.out.form
  subst hv2
  go_wp2_with (first
    | (go_at_call 10; refine S2.out.mono ?_; rintro e w' ⟨rfl, rfl⟩)
    | (at_builtin; refine wpList_append_row enc8_one (by rfl) _ _ _ (by rfl) w.heap.size 5 ii _ 1 Try.underlying22 HI.out HZ.out HSz.out HBy.out (by rfl) _ 4 _ (by rfl) CR.out _ BD (by rfl) A3.out (by have := BN.out; unfold maxLen; omega) (by have := BN.out; omega) CM.out ?_; intro v4 w4 hown hgrow hat; have B4 := Lib.hid (CG.out _ _ hown hgrow); clear hown hgrow hat))
  go_ret
  exact ⟨_, rfl, B4.out⟩
theorem piece_info : ∃ i, Try.prog.info? 40 = some i ∧ i.zero = some (.agg #[.int .u8 0, .slice none 0 0]) ∧ i.size = 2 ∧ i.bytes = 32 := by
  have h : (Try.prog.info? 40).map (fun i => (i.zero, i.size, i.bytes)) = some (some (.agg #[.int .u8 0, .slice none 0 0]), 2, 32) := by kernel_rfl
  obtain ⟨i, hi, he⟩ := Option.map_eq_some_iff.1 h
  simp only [Prod.mk.injEq] at he
  exact ⟨i, hi, he.1, he.2.1, he.2.2⟩
def PartP (w : World) (l : List Nat) (e : Ending) (w' : World) : Prop := Below w.heap.size w w' ∧
  ((∃ c : Nat, partR l.length l = .error c ∧ e = .returned (.tuple #[.slice none 0 0, .int .i64 (c : Int)])) ∨
   ∃ (v : Value) (zs : List Pz), partR l.length l = .ok (zs.map Pz.key) ∧ e = .returned (.tuple #[v, .int .i64 0]) ∧ w'.ownsRow w.heap.size 40 2 v zs.length (flat Pz.cells zs) ∧ ∀ z ∈ zs, ∀ wx, Below w'.heap.size w' wx → Row wx enc8 z.v z.b)
def lenV : Value → Nat
  | .slice _ n _ => n
  | _ => 0
theorem bs_cap {w0 w : World} {base n cap : Nat} {a : Option Addr} {l : List Nat} (h : Bs w0 base (.slice a n cap) l w) : cap ≤ maxLen := by
  rcases h.r.2 with ⟨hv, _⟩ | ⟨g, c, cur, hv, _, _, _, hm, _⟩
  · injection hv with _ _ h; omega
  · injection hv with _ _ h; omega
theorem row_cap {α : Type} {w : World} {enc : α → Value} {a : Option Addr} {n cap : Nat} {l : List α} (h : Row w enc (.slice a n cap) l) : l.length ≤ cap ∧ n = l.length := by
  rcases h with ⟨hv, h0⟩ | ⟨ad, c, hv, hc, _⟩
  · injection hv with _ h1 h2; subst h0; exact ⟨Nat.zero_le _, h1⟩
  · injection hv with _ h1 h2; omega
theorem row_some {α : Type} {w : World} {enc : α → Value} {a : Option Addr} {n cap : Nat} {l : List α} (h : Row w enc (.slice a n cap) l) (h0 : 0 < l.length) : ∃ ad, a = some ad := by
  rcases h with ⟨hv, h1⟩ | ⟨ad, c, hv, hc, _⟩
  · rw [h1] at h0; simp at h0
  · injection hv with h1 _ _; exact ⟨ad, h1⟩
theorem row_rest {α : Type} {w : World} {enc : α → Value} {ad : Addr} {cp : Nat} {r : List α} (h : Row w enc (.slice (some ad) r.length cp) r) (k : Nat) (h0 : 0 < k) (hk : k ≤ r.length) :
    Row w enc (.slice (if cp = k then some ad else some (ad.add k)) (r.drop k).length (cp - k)) (r.drop k) := by
  rw [List.length_drop]
  by_cases hc : cp = k
  · rw [if_pos hc]
    have := row_dropped0 h k hc
    rw [show cp - k = 0 by omega]; exact this
  · rw [if_neg hc]
    have h2 := row_dropped h (k - 1) (by omega)
    rw [show k - 1 + 1 = k by omega] at h2
    rw [show ad.add k = ⟨ad.block, ad.off + k, none⟩ by unfold Addr.add; rw [if_neg (by omega)]]
    exact h2
theorem rows_snoc {w : World} {zs : List Pz} {z : Pz} (h : ∀ y ∈ zs, Row w enc8 y.v y.b) (hz : Row w enc8 z.v z.b) : ∀ y ∈ zs ++ [z], Row w enc8 y.v y.b := by
  intro y hy
  rw [List.mem_append] at hy
  rcases hy with hy | hy
  · exact h y hy
  · rw [List.mem_singleton] at hy
    subst hy; exact hz
set_option maxHeartbeats 8000000 in
theorem part_calls (l : List Nat) (v : Value) (w : World) (hr : Row w enc8 v l) (hx : ∀ x ∈ l, x < 256) (hn : l.length ≤ 100000) :
    Calls Try.prog 16 #[v] w (PartP w l) := by
  obtain ⟨ii, hii, hz, hs, hb⟩ := byte_info
  have HI := Lib.hid hii
  have HZ := Lib.hid hz
  have HSz := Lib.hid hs
  have HBy := Lib.hid hb
  have HR := Lib.hid hr
  have HX := Lib.hid hx
  obtain ⟨a, cap, rfl⟩ := hr.form
  have B0 := Bs.nil (Below.refl w.heap.size w)
  have BG := Lib.hid (fun v' w' => @Bs.grow w _ w' _ _ v' _ l B0)
  rw [List.nil_append] at BG
  clear B0 hii hz hs hb hr hx
  go_enter Try.func16, Try.ntmps16
  go_upto_region 3 with (at_builtin; refine wpList_append_row enc8_one (by rfl) _ _ _ (by rfl) w.heap.size 5 ii _ 1 Try.underlying22 HI.out HZ.out HSz.out HBy.out (by rfl) (.slice none 0 0) 0 [] (by rfl) (World.ownsRow_nil _ _ _ _) _ l (by rfl) HR.out (by unfold maxLen; omega) (by omega) (Nat.le_refl _) ?_; intro v2 w2 hown hgrow hat; have B2 := Lib.hid (BG.out _ _ hown hgrow); clear hown hgrow hat)
  obtain ⟨a2, cap2, hv2⟩ := B2.out.row.form
  subst hv2
  have hc2 := bs_cap B2.out
  have J0 := Lib.hid (partJ_zero l)
  have R2 := Lib.hid B2.out.row
  have HB2 := Lib.hid B2.out.bel
  have NB : Hid (w.heap.size ≤ w2.heap.size) := HB2.out.size
  clear BG HR B2
  have CM := Lib.hid hc2
  clear hc2
  go_loopw [0, 4] (fun pv lv wr => ∃ (r : List Nat) (zs : List Pz) (a : Option Addr) (cp : Nat), pv = .slice a r.length cp ∧ Row w2 enc8 (.slice a r.length cp) r ∧ cp ≤ maxLen ∧ (∀ x ∈ r, x < 256) ∧ zs.length * 9 + r.length ≤ l.length ∧ partJ l (zs.map Pz.key) r ∧ (∀ z ∈ zs, Row w2 enc8 z.v z.b) ∧ Below w2.heap.size w2 wr ∧ wr.ownsRow w2.heap.size 40 2 lv zs.length (flat Pz.cells zs)) (fun pv _ _ => lenV pv)
  case atStart => exact ⟨l, [], a2, cap2, rfl, R2.out, CM.out, HX.out, by simp, J0.out, (fun z hz => by cases hz), Below.refl _ _, World.ownsRow_nil _ _ _ _⟩
  case round =>
    clear J0 R2 CM HX
    obtain ⟨r, zs, a, cp, rfl, hr, hcm, hx, hle, j1, hzr, hb, hown⟩ := hrel
    have J1 := Lib.hid j1
    have HR := Lib.hid hr
    have HX := Lib.hid hx
    have HZR := Lib.hid hzr
    have HB := Lib.hid hb
    have HO := Lib.hid hown
    have RC := Lib.hid (row_cap hr).1
    have HB3 : Hid (Below w.heap.size w wr) := HB2.out.trans (hb.mono NB.out)
    have HCM := Lib.hid hcm
    have HLE := Lib.hid hle
    clear j1 hx hzr hb hown hcm hle
    by_cases h0 : r.length = 0
    · have PE := Lib.hid (partJ_end J1.out h0)
      have hb0 : ¬ 0 < (r.length : Int) := by omega
      clear hr J1 HR RC
      generalize r.length = rn at *
      go_wp2_with fail
      go_ret2
      refine ⟨HB3.out, .inr ⟨_, zs, PE.out, rfl, ?_, fun z hz wx hbx => (HZR.out z hz).below (HB.out.trans (hbx.mono HB.out.size))⟩⟩
      have := HO.out
      exact ⟨this.1, by
        rcases this.2 with h | ⟨g, c, cur, hv, hg, hh⟩
        · exact .inl h
        · exact .inr ⟨g, c, cur, hv, Nat.le_trans NB.out hg, hh⟩⟩
    · obtain ⟨ad, rfl⟩ := row_some hr (by omega)
      have hb0 : 0 < (r.length : Int) := by omega
      by_cases h9 : r.length < 9
      · have PE := Lib.hid (partJ_short J1.out (by omega) h9)
        have h9i : (r.length : Int) < 9 := by omega
        clear hr J1 HR RC HZR HO
        generalize r.length = rn at *
        go_wp2_with fail
        go_ret2
        exact ⟨HB3.out, .inl ⟨5, PE.out, rfl⟩⟩
      · have h9i : ¬ (r.length : Int) < 9 := by omega
        have hrl : (r.length : Int) ≤ 100000 := by have := HLE.out; omega
        have h9n : 9 ≤ r.length := by omega
        have hl5 : ((r.drop 5).take 4).length = 4 := by rw [List.length_take, List.length_drop]; omega
        have hx5 : ∀ x ∈ (r.drop 5).take 4, x < 256 := fun x hx => HX.out x (List.mem_of_mem_drop (List.mem_of_mem_take hx))
        have hr5 := (row_sub hr 5 4 (cp - 5) (by omega) (by omega) (by have := RC.out; omega)).below HB.out
        have hN := ofB_lt _ hx5
        rw [hl5] at hN
        have OC := Lib.hid (of_calls _ _ wr hr5 hx5 (by omega))
        rw [List.take_of_length_le (show ((r.drop 5).take 4).length ≤ 8 by omega)] at OC
        have PL := Lib.hid (partJ_long J1.out h9n)
        have PS := Lib.hid (partJ_sum J1.out h9n)
        have PT := Lib.hid (partJ_step J1.out h9n)
        clear J1 hl5 hx5 hr5
        generalize ofB ((r.drop 5).take 4) = N at *
        have hN0 : 0 ≤ (N : Int) := by omega
        have hN1 : (N : Int) ≤ 4294967295 := by omega
        have hcp9 : 9 ≤ cp := by have := RC.out; omega
        have hcp9i : (9 : Int) ≤ (cp : Int) := by omega
        have hcpm : (cp : Int) ≤ 9223372036854775807 := by have := HCM.out; unfold maxLen at this; omega
        have hcp5 : ¬ (cp ≤ 5) := by omega
        have hcp5' : ¬ (cp - 5 = 0) := by omega
        have hcp5'' : ¬ (cp = 5) := by omega
        have H9N := Lib.hid h9n
        have HN4 := Lib.hid hN
        clear h0 h9 h9n hN hcp9
        by_cases hnn : r.length - 9 < N
        · have PE := Lib.hid (PL.out hnn)
          have hni : (r.length : Int) - 9 < (N : Int) := by omega
          clear hr HR RC HZR HO PL PS PT hnn
          generalize r.length = rn at *
          go_wp2_with (go_at_call 23; refine OC.out.mono ?_; rintro e w' ⟨rfl, rfl⟩)
          go_ret2
          exact ⟨HB3.out, .inl ⟨5, PE.out, rfl⟩⟩
        · have hni : ¬ (r.length : Int) - 9 < (N : Int) := by omega
          clear PL
          go_upto_region 9 with (go_at_call 23; refine OC.out.mono ?_; rintro e w' ⟨rfl, rfl⟩)
          have hN2 : (N : Int) ≤ 100000 := by omega
          have hcpN : 9 + (N : Int) ≤ (cp : Int) := by have := RC.out; omega
          have hNn : 9 + N ≤ r.length := by have := H9N.out; omega
          have hx4 : ∀ x ∈ r.take 4, x < 256 := fun x hx => HX.out x (List.mem_of_mem_take hx)
          have hl4 : (r.take 4).length = 4 := by rw [List.length_take]; omega
          have O4 := Lib.hid (fun m => of_calls _ _ (wr.drewN m) (((row_head hr 4 cp (by omega) (by omega)).below HB.out).drewN m) hx4 (by omega))
          rw [List.take_of_length_le (show (r.take 4).length ≤ 8 by omega)] at O4
          have hxs : ∀ x ∈ (r.drop 4).take (9 + N - 4), x < 256 := fun x hx => HX.out x (List.mem_of_mem_drop (List.mem_of_mem_take hx))
          have S4 := Lib.hid (fun m => sum_calls _ _ (wr.drewN m) (((row_sub hr 4 (9 + N - 4) (cp - 4) (by omega) (by omega) (by omega)).below HB.out).drewN m) hxs (by rw [List.length_take]; omega))
          have hCL := crc_lt _ hxs
          have e49 : (r.drop 4).take (9 + N - 4) = (r.drop 4).take (5 + N) := by rw [show 9 + N - 4 = 5 + N by omega]
          rw [e49] at S4 hCL
          clear e49
          have h4L := ofB_lt _ hx4
          rw [hl4] at h4L
          have HNN := Lib.hid hNn
          clear hx4 hl4 hxs hNn hnn
          generalize crc ((r.drop 4).take (5 + N)) = cs at *
          generalize ofB (r.take 4) = c4 at *
          have hcs0 : (cs : Int) ≤ 4294967295 := by omega
          have hc40 : (c4 : Int) ≤ 4294967295 := by omega
          clear hCL h4L
          go_quiet ((first | (go_at_call 23; exact quiet_left (O4.out _)) | (go_at_call 9; exact quiet_left (S4.out _))))
          have HB4 : Hid (Below w2.heap.size w2 (wr.drewN nq)) := below_drewN HB.out nq
          have HB5 : Hid (Below w.heap.size w (wr.drewN nq)) := below_drewN HB3.out nq
          have HO4 : Hid ((wr.drewN nq).ownsRow w2.heap.size 40 2 u4 zs.length (flat Pz.cells zs)) := HO.out
          clear O4 S4 HB HB3 HO
          generalize wr.drewN nq = w4 at *
          by_cases hcs : c4 = cs
          · have JN := Lib.hid (PT.out (by omega) hcs)
            have hbne : ((c4 : Int) != (cs : Int)) = false := by simp [hcs]
            clear PT PS hcs
            obtain ⟨jj, hjj, hjz, hjs, hjb⟩ := piece_info
            have PI := Lib.hid hjj
            have PZ := Lib.hid hjz
            have PSz := Lib.hid hjs
            have PBy := Lib.hid hjb
            clear hjj hjz hjs hjb
            have hc4 : w4.cell? ⟨ad.block, ad.off + 4, none⟩ = some (.int .u8 ((r.getD 4 0 : Nat) : Int)) := by
              rcases (hr.below HB4.out) with ⟨hh, _⟩ | ⟨ad2, cp2, hh, _, hcell⟩
              · cases hh
              · injection hh with h1 _ _
                injection h1 with h1
                subst h1
                have h4 : 4 < r.length := by have := H9N.out; omega
                have h5 : r.getD 4 0 = r[4] := by simp [List.getD, List.getElem?_eq_getElem h4]
                have := hcell 4 r[4] (List.getElem?_eq_getElem h4)
                rw [h5]
                simpa [Addr.add, enc8] using this
            have h4i : (4 : Int) < (r.length : Int) := by omega
            have h4n : 4 < r.length := by omega
            have hwr0 : IntKind.i64.wrap (9 + (N : Int)) = 9 + (N : Int) := by simp [IntKind.wrap, IntKind.signed, IntKind.bits]; omega
            obtain ⟨M, hM⟩ : ∃ M, 9 + N = M := ⟨_, rfl⟩
            have hwr : IntKind.i64.wrap (9 + (N : Int)) = (M : Int) := by rw [hwr0]; omega
            have hm0 : (0 : Int) ≤ (M : Int) := by omega
            have hm9 : (9 : Int) ≤ (M : Int) := by omega
            have hmc : (M : Int) ≤ (cp : Int) := by omega
            have hmx : max (M : Int) 0 = (M : Int) := by omega
            have HMN := Lib.hid hM
            clear hM hwr0
            go_upto_region 11 with (fail)
            generalize hK4 : ((r.getD 4 0 : Nat) : Int) = k4 at *
            have HK4 := Lib.hid hK4
            clear hK4
            have BD := Lib.hid ((below_drewN (Below.refl w4.heap.size w4) 1).alloc (Nat.le_refl _) (.cells #[.int .u8 k4, .slice (if M = 9 then some ad else some ⟨ad.block, ad.off + 9, none⟩) (M - 9) (M - 9)] 40))
            have NW := Lib.hid (fun W : World => news_blk (cs := [.int .u8 k4, .slice (if M = 9 then some ad else some ⟨ad.block, ad.off + 9, none⟩) (M - 9) (M - 9)]) (sp := []) (by rw [List.append_nil]; exact Blk.new W #[.int .u8 k4, .slice (if M = 9 then some ad else some ⟨ad.block, ad.off + 9, none⟩) (M - 9) (M - 9)] 40))
            have NO := Lib.hid (sl_below HO4.out BD.out)
            have BD2 := Lib.hid (HB4.out.trans (BD.out.mono HB4.out.size))
            have NL : Hid (w2.heap.size ≤ w4.heap.size) := HB4.out.size
            have ZL : Hid (zs.length ≤ 20000) := by have h := HLE.out; exact Lib.hid (by omega)
            go_region_law ((refine step_append_lies _ (by rfl) (.tmp 33) (.tmp 44) 33 (by rfl) w2.heap.size 40 jj _ 2 32 Try.underlying33 PI.out PZ.out PSz.out PBy.out (by rfl) (by omega) u4 zs.length _ (by rfl) NO.out ⟨w4.heap.size, 0, none⟩ 1 1 [.int .u8 k4, .slice (if M = 9 then some ad else some ⟨ad.block, ad.off + 9, none⟩) (M - 9) (M - 9)] (by rfl) (by rfl) (NW.out _) (by simp [Value.oneCell']) (by omega) (by have := ZL.out; unfold maxLen; omega) (by have := ZL.out; omega) (Nat.le_trans NL.out (by simp)) _ rfl ?_; intro g7 cap7 w7 hown hgrow hat hlt; have N7 := Lib.hid hown; have A7 := Lib.hid hat; have G7 := Lib.hid (below_grown BD2.out hgrow (fun k hk => own_ge NO.out k hk)); clear hown hgrow hat hlt))
            have NM := HMN.out
            have hlz : ((r.drop 9).take N).length = N := by rw [List.length_take, List.length_drop]; have := HNN.out; omega
            have RZ : Hid (Row w2 enc8 (.slice (if M = 9 then some ad else some ⟨ad.block, ad.off + 9, none⟩) (M - 9) (M - 9)) ((r.drop 9).take N)) := by
              by_cases h : M = 9
              · rw [if_pos h, show N = 0 by omega, List.take_zero, show M - 9 = 0 by omega]
                exact row_nothing ad 0
              · rw [if_neg h]
                have h2 := row_sub hr 9 (M - 9) (M - 9) (by omega) (by have := HNN.out; omega) (Nat.le_refl _)
                rw [show M - 9 = N by omega] at h2 ⊢
                exact h2
            generalize (if M = 9 then some ad else some ⟨ad.block, ad.off + 9, none⟩) = a9 at *
            have ZV : Hid ((⟨r.getD 4 0, (r.drop 9).take N, a9, M - 9⟩ : Pz).v = .slice a9 (M - 9) (M - 9)) := by show Value.slice a9 _ _ = _; rw [hlz, show N = M - 9 by omega]
            have ZC : Hid (flat Pz.cells (zs ++ [⟨r.getD 4 0, (r.drop 9).take N, a9, M - 9⟩]) = flat Pz.cells zs ++ [.int .u8 k4, .slice a9 (M - 9) (M - 9)]) := by
              show _ = _
              rw [flat_append]
              show _ ++ ([.int .u8 ((r.getD 4 0 : Nat) : Int), (⟨r.getD 4 0, (r.drop 9).take N, a9, M - 9⟩ : Pz).v] ++ []) = _
              rw [ZV.out, HK4.out]; rfl
            have HDR := Lib.hid hr
            clear NW NO BD BD2 PI PZ PSz PBy hlz hc4 hr HO4 HB4 HB5
            clear hwr hm0 hm9 hmc hmx NM
            go_wp2_with fail
            all_goals
              go_roundw
              case measure => simp [lenV]; have := HNN.out; omega
              case rel =>
                refine ⟨r.drop (9 + N), zs ++ [⟨r.getD 4 0, (r.drop 9).take N, a9, M - 9⟩], _, _, by rw [List.length_drop], ?_, ?_, fun x hx => HX.out x (List.mem_of_mem_drop hx), ?_, ?_, ?_, G7.out, ?_⟩
                all_goals first
                  | exact row_rest HDR.out (9 + N) (by omega) HNN.out
                  | (have := HCM.out; omega)
                  | (have := HLE.out; have := HNN.out; rw [List.length_append, List.length_drop]; simp only [List.length_cons, List.length_nil]; omega)
                  | (rw [List.map_append]; exact JN.out)
                  | exact rows_snoc HZR.out (by rw [ZV.out]; exact RZ.out)
                  | (rw [ZC.out, List.length_append]; exact N7.out)
          · have PE := Lib.hid (PS.out (by omega) hcs)
            have hbne : ((c4 : Int) != (cs : Int)) = true := by simp; omega
            clear PT PS hcs
            go_wp2_with fail
            go_ret2
            exact ⟨HB5.out, .inl ⟨12, PE.out, rfl⟩⟩
end Go.Proofs.Ytpimjioamoaejaa.Walks
