/- Walks through the functions of the statement, and the statement over them: each contract says what the call answers and that nothing else changes. -/
import Derived.Test.YtpimjioamoaejaaProg
import Derived.Laws.BytesString
import Derived.Test.YtpimjioamoaejaaBits
import Derived.Test.YtpimjioamoaejaaHeap
import Derived.Test.YtpimjioamoaejaaAid
import Derived.Lib.Hide
import Derived.Test.YtpimjioamoaejaaArr
import Derived.Test.YtpimjioamoaejaaEql
import Derived.Test.YtpimjioamoaejaaWalkSums
import Derived.Test.YtpimjioamoaejaaWalkApp
import Derived.Test.YtpimjioamoaejaaWalkEye
import Derived.Test.YtpimjioamoaejaaWalkPart
import Derived.Test.YtpimjioamoaejaaWalkTurns
import Derived.Test.YtpimjioamoaejaaWalkJoin
import Derived.WalkKit
import Derived.WalkSpells
import Derived.WalkLawsBesides
import Derived.Deep.QuietTactic
import Derived.BigQuiet
import Derived.Deep.RegionHeld3
import Derived.Deep.DeepCutAuto
import Derived.Deep.CutBlock
import Derived.Lib.SlBytesConst
import Derived.StillTailTactics
import Derived.Laws.MakeOwn
import Derived.Deep.AppendLies
import Derived.Laws.CopyOwn
import Derived.Maps.AppendAt
import Derived.Deep.Upon
import Derived.Deep.AppendSrc
import Derived.RegionTactic
namespace Go.Proofs.Ytpimjioamoaejaa.Walks
set_option linter.unusedVariables false
set_option linter.unusedSimpArgs false
open Go.RowKit Go.Proofs.Ytpimjioamoaejaa.Bits Go.Proofs.Ytpimjioamoaejaa.Heap Go.Proofs.Ytpimjioamoaejaa.Aid Go.Proofs.Ytpimjioamoaejaa.Arr Go.Proofs.Ytpimjioamoaejaa.Eql

def strOf (l : List Nat) : ByteArray := ⟨(l.map UInt8.ofNat).toArray⟩
theorem strOf_inj {l m : List Nat} (hl : ∀ x ∈ l, x < 256) (hm : ∀ x ∈ m, x < 256) (h : strOf l = strOf m) : l = m := by
  have h1 : l.map UInt8.ofNat = m.map UInt8.ofNat := by
    have := congrArg (fun b : ByteArray => b.data.toList) h
    simpa [strOf] using this
  have h2 : ∀ l : List Nat, (∀ x ∈ l, x < 256) → (l.map UInt8.ofNat).map UInt8.toNat = l := by
    intro l
    induction l with
    | nil => intro _; rfl
    | cons x r ih =>
      intro h
      rw [List.map_cons, List.map_cons, ih (fun y hy => h y (by simp [hy]))]
      congr 1
      have := h x (by simp)
      simp
      omega
  rw [← h2 l hl, ← h2 m hm, h1]
/-- 'string(b)'. -/
theorem run_string {P : Program} (w : World) (src dst e : TypeId) (hs : P.underlying src = some (.slice e)) (he : P.underlying e = some (.int .u8)) (hd : P.underlying dst = some .string) (v : Value) (l : List Nat) (hr : Row w enc8 v l) :
    (convert src dst v).run P w = .ok (.string (strOf l)) w := by
  rcases hr with ⟨rfl, rfl⟩ | ⟨a, cap, rfl, hc, hcell⟩
  · rw [run_convert_bytes_string w src dst e _ 0 0 hs he hd]
    simp [Conv.bytesToString]
    rfl
  · rw [run_convert_bytes_string w src dst e _ _ cap hs he hd]
    have hl := run_loadCells_list (P := P) w a ((l.map fun x : Nat => (x : Int)).map (Value.int .u8)) (fun j v hj => by
      rw [List.map_map, List.getElem?_map] at hj
      obtain ⟨x, hx, rfl⟩ := Option.map_eq_some_iff.1 hj
      exact hcell j x hx)
    rw [List.length_map, List.length_map] at hl
    rw [run_bytesToString w a l.length cap _ hl]
    congr 2
    have : ∀ (l : List Nat) (s : ByteArray), (l.map fun x : Nat => (x : Int)).foldl (fun r n => r.push (UInt8.ofNat n.toNat)) s = ⟨s.data ++ (l.map UInt8.ofNat).toArray⟩ := by
      intro l
      induction l with
      | nil => intro s; simp
      | cons x r ih =>
        intro s
        rw [List.map_cons, List.foldl_cons, ih]
        simp [ByteArray.push]
    rw [this]
    simp [strOf, ByteArray.empty, ByteArray.emptyWithCapacity]
    try rfl
/-- A slice of elements of several cells, in whatever later world. -/
theorem rowS_of {w : World} {e : Sh} {v : Value} (h : Fits w (.slice e) [v]) (h0 : 0 < e.size) : ∃ (a : Option Addr) (cap : Nat) (segs : List (List Value)), v = .slice a segs.length cap ∧ segs.length ≤ cap ∧ cap ≤ maxLen ∧ (∀ s ∈ segs, Fits w e s) ∧
    ∀ (i : Nat) (s : List Value), segs[i]? = some s → ∃ b off, a = some ⟨b, off, none⟩ ∧ ∀ wx, Below w.heap.size w wx → wx.rangeAt b (off + i * e.size) s := by
  rcases h with h | ⟨a, len, cap, segs, h1, hl, hm, h2, h3, h4⟩
  · simp only [List.cons.injEq, and_true] at h
    exact ⟨none, 0, [], h, Nat.le_refl _, Nat.zero_le _, (fun s hs => by cases hs), (fun i s hs => by simp at hs)⟩
  · simp only [List.cons.injEq, and_true] at h1
    refine ⟨some a, cap, segs, by rw [h1, h2], by omega, hm, h4, fun i s hs => ?_⟩
    have hlt : i < segs.length := by
      rcases Nat.lt_or_ge i segs.length with h | h
      · exact h
      · rw [List.getElem?_eq_none h] at hs; cases hs
    have hx : segs[0]? = some segs[0] := List.getElem?_eq_getElem (by omega)
    obtain ⟨_, hn0, hc0⟩ := World.cells?_some (h3 0 _ hx)
    have hspot : a.spot = none := by
      have h5 := hc0 0 h0
      rw [Nat.zero_mul] at h5
      have h6 : w.cell? a = segs[0][0]? := h5
      rw [List.getElem?_eq_getElem (by omega)] at h6
      unfold World.cell? at h6
      split at h6
      · split at h6
        · cases h6
        · rename_i hsp
          cases hq : a.spot with
          | none => rfl
          | some q => rw [hq] at hsp; simp at hsp
      · cases h6
    obtain ⟨b, off, sp⟩ := a
    simp only at hspot
    subst hspot
    refine ⟨b, off, rfl, fun wx hb j u hu => ?_⟩
    obtain ⟨_, hn, hc⟩ := World.cells?_some (h3 i s hs)
    have hj : j < e.size := by
      rw [← hn]
      rcases Nat.lt_or_ge j s.length with h | h
      · exact h
      · rw [List.getElem?_eq_none h] at hu; cases hu
    have h7 := hc j hj
    have ea : ((⟨b, off, none⟩ : Addr).add (i * e.size)).add j = ⟨b, off + i * e.size + j, none⟩ := by
      unfold Addr.add
      by_cases h8 : i * e.size = 0
      · rw [if_pos h8]
        by_cases h9 : j = 0
        · rw [if_pos h9, h8, h9]; rfl
        · rw [if_neg h9, h8]; rfl
      · rw [if_neg h8]
        by_cases h9 : j = 0
        · rw [if_pos h9, h9]; rfl
        · rw [if_neg h9]
    rw [ea, hu] at h7
    rw [hb.cell (World.block_lt_of_cell? w _ h7), h7]
theorem wf_i64_mk {a : Int} (h : -9223372036854775808 ≤ a ∧ a ≤ 9223372036854775807) : (Lit.int .i64 a).wf = true := by
  simp [Lit.wf, IntKind.min, IntKind.max, IntKind.signed, IntKind.bits]; omega
theorem list_choose {α β : Type} {p : α → β → Prop} {l : List α} (h : ∀ s ∈ l, ∃ z, p s z) : ∃ zs : List β, zs.length = l.length ∧ ∀ (i : Nat) (z : β), zs[i]? = some z → ∃ s : α, l[i]? = some s ∧ p s z := by
  induction l with
  | nil => exact ⟨[], rfl, fun i z hz => by simp at hz⟩
  | cons s r ih =>
    obtain ⟨z, hz⟩ := h s (by simp)
    obtain ⟨zs, hl, hp⟩ := ih (fun s hs => h s (by simp [hs]))
    refine ⟨z :: zs, by simp [hl], fun i y hy => ?_⟩
    cases i with
    | zero =>
      simp only [List.getElem?_cons_zero, Option.some.injEq] at hy
      exact ⟨s, by simp, hy ▸ hz⟩
    | succ i =>
      simp only [List.getElem?_cons_succ] at hy ⊢
      exact hp i y hy
/-- Slices of bytes in a row, in whatever later world. -/
theorem slices_of {w : World} {v : Value} (h : Fits w (.slice (.slice (.int .u8))) [v]) : ∃ (a : Option Addr) (cap : Nat) (zs : List Pz), v = .slice a zs.length cap ∧
    ∀ (i : Nat) (z : Pz), zs[i]? = some z → (∀ x ∈ z.b, x < 256) ∧ z.b.length ≤ maxLen ∧ (∀ wx, Below w.heap.size w wx → Row wx enc8 z.v z.b) ∧ ∃ g o, a = some ⟨g, o, none⟩ ∧ ∀ wx, Below w.heap.size w wx → wx.cell? ⟨g, o + i, none⟩ = some z.v := by
  obtain ⟨a, cap, segs, hv, _, _, hs, hc⟩ := rowS_of h (by decide)
  obtain ⟨zs, hl, hz⟩ := list_choose (p := fun (s : List Value) (z : Pz) => s = [z.v] ∧ (∀ x ∈ z.b, x < 256) ∧ z.b.length ≤ maxLen ∧ Row w enc8 z.v z.b) (l := segs) (fun s hs2 => by
    have hf := hs s hs2
    have hsz : ∃ u, s = [u] := by
      rcases hf with h | ⟨a, l, c, sg, h, _⟩
      · exact ⟨_, h⟩
      · exact ⟨_, h⟩
    obtain ⟨u, rfl⟩ := hsz
    obtain ⟨b, hr, hb, hm⟩ := bytes_row hf
    obtain ⟨a, c, rfl⟩ := hr.form
    exact ⟨⟨0, b, a, c⟩, rfl, hb, hm, hr⟩)
  refine ⟨a, cap, zs, by rw [hl]; exact hv, fun i z hz2 => ?_⟩
  obtain ⟨s, hs2, rfl, hb, hm, hr⟩ := hz i z hz2
  obtain ⟨g, o, ha, hrg⟩ := hc i _ hs2
  refine ⟨hb, hm, fun wx hbx => hr.below hbx, g, o, ha, fun wx hbx => ?_⟩
  have := hrg wx hbx 0 z.v rfl
  rw [show o + i * (Sh.slice (Sh.int .u8)).size + 0 = o + i by simp [Sh.size]] at this
  exact this
theorem joinB_part (L : List (Nat × List Nat)) (h : ∀ z ∈ L, z.1 < 256 ∧ (∀ x ∈ z.2, x < 256) ∧ z.2.length ≤ 100) : ∀ f, (joinB L).length ≤ f → partR f (joinB L) = .ok L := by
  induction L with
  | nil =>
    intro f _
    cases f with
    | zero => rfl
    | succ f => rw [partR, if_pos (by simp [joinB])]
  | cons z r ih =>
    intro f hf
    obtain ⟨hk, hb, hn⟩ := h z (by simp)
    have hr := fun y hy => h y (List.mem_cons_of_mem _ hy)
    obtain ⟨p1, p2, p3, p4⟩ := piece_head z.1 z.2
    have hL := piece_len z.1 z.2
    rw [joinB] at hf ⊢
    rw [List.length_append, hL] at hf
    obtain ⟨f, rfl⟩ : ∃ k, f = k + 1 := ⟨f - 1, by omega⟩
    have hNl : ofB (leB 4 z.2.length) = z.2.length := by rw [ofB_leB]; exact Nat.mod_eq_of_lt (by omega)
    have hC : ofB (leB 4 (crc (bodyB z.1 z.2))) = crc (bodyB z.1 z.2) := by
      rw [ofB_leB]; exact Nat.mod_eq_of_lt (crc_lt _ (body_lt hk hb))
    have e1 : (pieceB z.1 z.2 ++ joinB r).take 4 = leB 4 (crc (bodyB z.1 z.2)) := by rw [List.take_append_of_le_length (by omega), p1]
    have e2 : ((pieceB z.1 z.2 ++ joinB r).drop 5).take 4 = leB 4 z.2.length := by
      rw [List.drop_append_of_le_length (by omega), List.take_append_of_le_length (by rw [List.length_drop]; omega), p3]
    have e3 : ((pieceB z.1 z.2 ++ joinB r).drop 4).take (5 + z.2.length) = bodyB z.1 z.2 := by
      rw [List.drop_append_of_le_length (by omega), p2, List.take_append_of_le_length (by rw [body_len]; omega), List.take_of_length_le (by rw [body_len]; omega)]
    have e4 : (pieceB z.1 z.2 ++ joinB r).drop (9 + z.2.length) = joinB r := by
      rw [← hL, List.drop_left]
    have e5 : ((pieceB z.1 z.2 ++ joinB r).drop 9).take z.2.length = z.2 := by
      rw [List.drop_append_of_le_length (by omega), p4, List.take_append_of_le_length (Nat.le_refl _), List.take_of_length_le (Nat.le_refl _)]
    have e6 : (pieceB z.1 z.2 ++ joinB r).getD 4 0 = z.1 := by
      have h1 : ((pieceB z.1 z.2 ++ joinB r).drop 4)[0]? = some z.1 := by
        rw [List.drop_append_of_le_length (by omega), p2]; rfl
      rw [List.getElem?_drop] at h1
      simp only [List.getD]
      rw [h1]; rfl
    rw [partR, if_neg (by rw [List.length_append, hL]; omega), if_neg (by rw [List.length_append, hL]; omega), e2, hNl, if_neg (by rw [List.length_append, hL]; omega), e1, e3, hC, if_neg (fun h => h rfl), e4, ih hr f (by omega), e5, e6]
/-- A piece of a kind and of bytes as they came. -/
def mkP (k : Nat) (z : Pz) : Pz := ⟨k, z.b, z.a, z.c⟩
def mkPs : List Nat → List Pz → List Pz
  | k :: ks, z :: zs => mkP k z :: mkPs ks zs
  | _, _ => []
theorem mkPs_len : ∀ (ks : List Nat) (zs : List Pz), ks.length ≤ zs.length → (mkPs ks zs).length = ks.length := by
  intro ks
  induction ks with
  | nil => intro zs _; cases zs <;> rfl
  | cons k r ih =>
    intro zs h
    cases zs with
    | nil => simp at h
    | cons z q => simp only [mkPs, List.length_cons]; rw [ih q (by simpa using h)]
theorem mkPs_get : ∀ (ks : List Nat) (zs : List Pz) (i : Nat) (k : Nat) (z : Pz), ks[i]? = some k → zs[i]? = some z → (mkPs ks zs)[i]? = some (mkP k z) := by
  intro ks
  induction ks with
  | nil => intro zs i k z h; simp at h
  | cons k r ih =>
    intro zs i k' z h1 h2
    cases zs with
    | nil => simp at h2
    | cons z' q =>
      cases i with
      | zero =>
        simp only [List.getElem?_cons_zero, Option.some.injEq] at h1 h2
        subst h1; subst h2
        rfl
      | succ i =>
        simp only [List.getElem?_cons_succ] at h1 h2
        simp only [mkPs, List.getElem?_cons_succ]
        exact ih q i k' z h1 h2
theorem two_rows {w W2 w7 : World} {base n size g7 : Nat} {T : TypeId} {xv wv : Value} {l : List Nat} {xs : List Value} (hB : Bs w base wv l W2) (hx : W2.ownsRow w.heap.size T size xv n xs) (hne : ∀ g, xv.ownBlock = some g → wv.ownBlock ≠ some g)
    (hgrow : W2.grownBy w7 xv.ownBlock) (hat : xv.ownBlock = some g7 ∨ g7 = W2.heap.size) : Below w.heap.size w w7 ∧ Bs w base wv l w7 ∧ ∀ g, some g7 = some g → wv.ownBlock ≠ some g := by
  have hb := below_grown hB.bel hgrow (fun k hk => own_ge hx k hk)
  refine ⟨hb, ⟨hb, hB.n, Nat.le_trans hB.m hgrow.size, sl_keep hB.r (keep_grown hgrow) (fun g e e2 => hne g e2 e)⟩, fun g e e2 => ?_⟩
  injection e with e
  subst e
  rcases hat with h | h
  · exact hne _ h e2
  · have := hB.lt _ e2
    omega
theorem two_rows2 {w W2 w7 : World} {base n size : Nat} {T : TypeId} {xv wv wv' : Value} {l s : List Nat} {xs : List Value} (hB : Bs w base wv l W2) (hx : W2.ownsRow w.heap.size T size xv n xs) (hne : ∀ g, xv.ownBlock = some g → wv.ownBlock ≠ some g)
    (hown : w7.ownsRow base 5 1 wv' (l.length + s.length) (l.map enc8 ++ s.map enc8)) (hgrow : W2.grownBy w7 wv.ownBlock) (hat : wv'.ownBlock = wv.ownBlock ∨ wv'.ownBlock = some W2.heap.size) :
    Bs w base wv' (l ++ s) w7 ∧ w7.ownsRow w.heap.size T size xv n xs ∧ ∀ g, xv.ownBlock = some g → wv'.ownBlock ≠ some g := by
  refine ⟨hB.grow hown hgrow, sl_keep hx (keep_grown hgrow) (fun g e e2 => hne g e e2), fun g e e2 => ?_⟩
  rcases hat with h | h
  · rw [h] at e2; exact hne g e e2
  · rw [h] at e2
    injection e2 with e2
    have := (World.ownsRow.lt hx g e).2
    omega
set_option maxHeartbeats 8000000 in
theorem joins_walk (v0 v1 : Value) (w : World) (f0 : Aid.Fits w (.slice (.int .u8)) [v0]) (f1 : Aid.Fits w (.slice (.slice (.int .u8))) [v1]) :
    Calls Try.prog 6 #[v0, v1] w fun e w' => e = .returned (.bool true) ∧ Below w.heap.size w w' := by
  obtain ⟨ks, hkr, hkl, hkm⟩ := bytes_row f0
  obtain ⟨ka, kc, rfl⟩ := hkr.form
  obtain ⟨za, zc, zs, rfl, hz⟩ := slices_of f1
  by_cases hok : ks.length ≤ 10 ∧ ks.length ≤ zs.length
  · obtain ⟨h10, hle⟩ := hok
    have KR := Lib.hid (fun w1 (hb : Below w.heap.size w w1) => hkr.below hb)
    have KL := Lib.hid hkl
    have HZ := Lib.hid hz
    have h10i : (ks.length : Int) ≤ 10 := by omega
    have hlei : (ks.length : Int) ≤ (zs.length : Int) := by omega
    obtain ⟨ii, hii, hiz, his, hib⟩ := byte_info
    have BI := Lib.hid hii
    have BZ := Lib.hid hiz
    have BSz := Lib.hid his
    have BBy := Lib.hid hib
    obtain ⟨jj, hjj, hjz, hjs, hjb⟩ := piece_info
    have PI := Lib.hid hjj
    have PZ := Lib.hid hjz
    have PSz := Lib.hid hjs
    have PBy := Lib.hid hjb
    have ML := Lib.hid (mkPs_len ks zs hle)
    have MG := Lib.hid (mkPs_get ks zs)
    clear hkr hkl hkm hz f0 f1 hii hiz his hib hjj hjz hjs hjb
    generalize mkPs ks zs = ps at *
    have hd1 : decide (zs.length < ks.length) = false := decide_eq_false (by omega)
    go_enter Try.func6, Try.ntmps6
    go_upto_region 6 with (go_at_call 8; refine (awake_calls _).mono ?_; rintro e w1 ⟨rfl, hb⟩; have HB := Lib.hid hb; clear hb)
    go_loopw [5, 6, 7] (fun xv wv i wr => ∃ k : Nat, k ≤ ks.length ∧ i = .int .i64 k ∧ Below w.heap.size w wr ∧ wr.ownsRow w.heap.size 40 2 xv k (flat Pz.cells (ps.take k)) ∧ Bs w w.heap.size wv (joinB ((ps.take k).map Pz.key)) wr ∧ (∀ g, xv.ownBlock = some g → wv.ownBlock ≠ some g) ∧ ∀ z ∈ ps.take k, z.Ok ∧ ∀ wx, Below w.heap.size w wx → Row wx enc8 z.v z.b) (fun _ _ i _ => ks.length - (intOf i).toNat)
    case atStart => exact ⟨0, Nat.zero_le _, rfl, HB.out, World.ownsRow_nil _ _ _ _, ⟨HB.out, Nat.le_refl _, HB.out.size, World.ownsRow_nil _ _ _ _⟩, (fun g h => by cases h), (fun z hz => by simp at hz)⟩
    case round =>
      obtain ⟨k, hk, rfl, hb, hown, hbs, hne, hps⟩ := hrel
      have HBr := Lib.hid hb
      have HO := Lib.hid hown
      have HW := Lib.hid hbs
      have HNE := Lib.hid hne
      have HPS := Lib.hid hps
      clear hb hown hbs hne hps HB
      by_cases hlt : k < ks.length
      · have hkx : ks[k]? = some ks[k] := List.getElem?_eq_getElem hlt
        have hzx : zs[k]? = some (zs[k]'(by omega)) := List.getElem?_eq_getElem (by omega)
        have hpx := MG.out k _ _ hkx hzx
        obtain ⟨hz1, hz2, hz3, zg, zo, rfl, hz4⟩ := HZ.out k _ hzx
        have hkb := KL.out _ (List.getElem_mem hlt)
        obtain ⟨ad, rfl⟩ := row_some (KR.out _ HBr.out) (by omega)
        have hkc : ∀ wx, Below w.heap.size w wx → wx.cell? (ad.add k) = some (.int .u8 ((ks[k] : Nat) : Int)) := fun wx hb => by
          rcases KR.out wx hb with ⟨h, _⟩ | ⟨ad2, c2, h, _, hc⟩
          · cases h
          · injection h with h1 _ _
            injection h1 with h1
            subst h1
            exact hc k _ hkx
        have hki : (k : Int) < (ks.length : Int) := by omega
        have hk0 : 0 ≤ (k : Int) := by omega
        have hkz : (k : Int) < (zs.length : Int) := by omega
        have PT : Hid (ps.take (k + 1) = ps.take k ++ [mkP ks[k] (zs[k]'(by omega))]) := by
          have h1 := some_lt hpx
          show _ = _
          rw [List.take_succ_eq_append_getElem h1]
          rw [List.getElem?_eq_getElem h1] at hpx
          rw [Option.some.inj hpx]
        generalize zs[k]'(by omega) = z at *
        generalize ks[k] = kd at *
        obtain ⟨_, zb, zaa, zcc⟩ := z
        simp only [mkP] at PT
        have hz1 : ∀ x ∈ zb, x < 256 := hz1
        have zc0 : wr.cell? ⟨zg, zo + k, none⟩ = some (.slice zaa zb.length zcc) := hz4 wr HBr.out
        have Z3 : Hid (∀ wx, Below w.heap.size w wx → Row wx enc8 (.slice zaa zb.length zcc) zb) := hz3
        have Z4 : Hid (∀ wx, Below w.heap.size w wx → wx.cell? ⟨zg, zo + k, none⟩ = some (.slice zaa zb.length zcc)) := hz4
        have K4 := Lib.hid hkc
        have kc0 := hkc wr HBr.out
        have Z1 := Lib.hid hz1
        have KB := Lib.hid hkb
        clear hz1 hz2 hz3 hz4 hkc hkb hkx hzx hpx HZ KR KL MG
        by_cases h100 : zb.length ≤ 100
        · have hzb0 : 0 ≤ (zb.length : Int) := by omega
          have hzb1 : ¬ 100 < (zb.length : Int) := by omega
          have ZN := Lib.hid h100
          clear h100
          have JS : Hid (joinB ((ps.take (k + 1)).map Pz.key) = joinB ((ps.take k).map Pz.key) ++ pieceB kd zb) := by
            show _ = _
            rw [PT.out, List.map_append]
            exact joinB_snoc _ _
          have FS : Hid (flat Pz.cells (ps.take (k + 1)) = flat Pz.cells (ps.take k) ++ [.int .u8 (kd : Int), .slice zaa zb.length zcc]) := by
            show _ = _
            rw [PT.out, flat_append]; rfl
          have AL : Hid ((joinB ((ps.take k).map Pz.key)).length ≤ 1090) := by
            have h := joinB_len ((ps.take k).map Pz.key) (fun z hz => by
              obtain ⟨y, hy, rfl⟩ := List.mem_map.1 hz
              exact (HPS.out y hy).1.n)
            rw [List.length_map, List.length_take] at h
            exact Lib.hid (by omega)
          have NP : Hid (∀ y ∈ ps.take (k + 1), y.Ok ∧ ∀ wx, Below w.heap.size w wx → Row wx enc8 y.v y.b) := by
            intro y hy
            rw [PT.out, List.mem_append] at hy
            rcases hy with hy | hy
            · exact HPS.out y hy
            · rw [List.mem_singleton] at hy
              subst hy
              exact ⟨⟨KB.out, Z1.out, ZN.out⟩, Z3.out⟩
          have PN := Lib.hid (piece_len kd zb)
          have OC := Lib.hid (fun W (hb : Below w.heap.size w W) => one_calls kd KB.out zb _ W (fun wx hbx => Z3.out wx (hb.trans (hbx.mono hb.size))) Z1.out (by have := ZN.out; omega))
          generalize hpk : ps.take (k + 1) = pk1 at *
          have PKE := Lib.hid hpk
          clear hpk
          generalize joinB ((ps.take k).map Pz.key) = acc at *
          generalize pieceB kd zb = PC at *
          generalize flat Pz.cells (ps.take k) = fk at *
          clear HPS PT KB Z1
          go_upto_region 10 with (fail)
          have BD := Lib.hid ((below_drewN (Below.refl wr.heap.size wr) 1).alloc (Nat.le_refl _) (.cells #[.int .u8 (kd : Int), .slice zaa zb.length zcc] 40))
          have NW := Lib.hid (fun W : World => news_blk (cs := [.int .u8 (kd : Int), .slice zaa zb.length zcc]) (sp := []) (by rw [List.append_nil]; exact Blk.new W #[.int .u8 (kd : Int), .slice zaa zb.length zcc] 40))
          have NO := Lib.hid (sl_below HO.out BD.out)
          have NL : Hid (w.heap.size ≤ wr.heap.size) := HBr.out.size
          have WD := Lib.hid (HW.out.step BD.out)
          go_cut [5] (fun xv wx => Below w.heap.size w wx ∧ wx.ownsRow w.heap.size 40 2 xv (k + 1) (flat Pz.cells pk1) ∧ Bs w w.heap.size u6 acc wx ∧ (∀ g, xv.ownBlock = some g → u6.ownBlock ≠ some g))
          case first =>
            go_region_law ((refine step_append_lies _ (by rfl) (.tmp 39) (.tmp 49) 33 (by rfl) w.heap.size 40 jj _ 2 32 Try.underlying33 PI.out PZ.out PSz.out PBy.out (by rfl) (by omega) u5 k _ (by rfl) NO.out ⟨wr.heap.size, 0, none⟩ 1 1 [.int .u8 (kd : Int), .slice zaa zb.length zcc] (by rfl) (by rfl) (NW.out _) (by simp [Value.oneCell']) (by omega) (by unfold maxLen; omega) (by omega) (Nat.le_trans NL.out (by simp)) _ rfl ?_; intro g7 cap7 w7 hown hgrow hat hlt7; have T7 := Lib.hid (two_rows WD.out NO.out HNE.out hgrow hat); have N7 := Lib.hid hown; clear hown hgrow hat hlt7))
            all_goals
              go_wp2_with fail
              go_meet
              exact ⟨T7.out.1, by rw [FS.out]; exact N7.out, T7.out.2.1, T7.out.2.2⟩
          case rest =>
            obtain ⟨q1, q2, q3, q4⟩ := hcut
            have QD := Lib.hid (below_drewN q1 1)
            have QB := Lib.hid (below_drewN (Below.refl wc.heap.size wc) 1)
            have QW := Lib.hid (fun w' (h : Below (wc.drewN 1).heap.size (wc.drewN 1) w') => q3.step (QB.out.trans h))
            have QX := Lib.hid (fun w' (h : Below (wc.drewN 1).heap.size (wc.drewN 1) w') => sl_below q2 (QB.out.trans h))
            have QE := Lib.hid q4
            have kc1 := K4.out wc q1
            have zc1 := Z4.out wc q1
            clear q1 q2 q3 q4 BD NW NO NL WD HNE HO HW FS zc0 kc0
            go_upto_region 11 with (fail)
            go_region_law (first
              | (refine step_append_row enc8_one (by rfl) (.tmp 51) (.tmp 60) 22 (by rfl) w.heap.size 5 ii _ 1 Try.underlying22 BI.out BZ.out BSz.out BBy.out (by rfl) u6 acc.length _ (by rfl) WO.out.r _ PC (by rfl) RO.out (by rw [PN.out]; have := AL.out; have := ZN.out; unfold maxLen; omega) (by rw [PN.out]; have := AL.out; have := ZN.out; omega) WO.out.bel.size ?_; intro v8 w8 hown hgrow hat; have T8 := Lib.hid (two_rows2 WO.out XO.out QE.out hown hgrow hat); clear hown hgrow hat)
              | ((with_reducible refine call_gate 15 ?_); go_simp; go_at_call 15; refine (OC.out _ QD.out).mono ?_; rintro e w' ⟨ov, rfl, bov⟩; have WO := Lib.hid (QW.out _ bov.bel); have XO := Lib.hid (QX.out _ bov.bel); have RO := Lib.hid bov.row; clear bov))
            all_goals
              go_wp2_with fail
              go_roundw
              case rel => exact ⟨k + 1, by omega, by go_num, T8.out.1.bel, by rw [PKE.out]; exact T8.out.2.1, by rw [PKE.out, JS.out]; exact T8.out.1, T8.out.2.2, by rw [PKE.out]; exact NP.out⟩
              case measure => simp [intOf]; omega
        · have hzb1 : 100 < (zb.length : Int) := by omega
          go_wp2_with fail
          go_ret
          exact ⟨rfl, HBr.out⟩
      · obtain rfl : k = ks.length := by omega
        have hT : ps.take ks.length = ps := List.take_of_length_le (by have := ML.out; omega)
        rw [hT] at HO HW HPS
        have PA : Hid (∀ n a c, u5 = .slice a n c → PiecesAt wr a ps) := by
          intro n a c hv i z hi
          have h0 := some_lt hi
          obtain ⟨g, cap, sp, hv2, _, _, _, hb⟩ := sl_form HO.out (by have := ML.out; omega)
          rw [hv] at hv2
          injection hv2 with h1 _ _
          refine ⟨g, 0, h1, fun wx hbx => ?_⟩
          have hb2 := hb.below hbx hb.lt
          refine range_of_blk (n := 2) hb2 ?_
          have h5 := flat_seg pz2 hi
          have hlen := flat_length pz2 ps
          have hin : i * 2 + 2 ≤ (flat Pz.cells ps).length := by rw [hlen]; omega
          rw [Nat.zero_add, List.drop_append_of_le_length (by omega), List.take_append_of_le_length (by rw [List.length_drop]; omega)]
          exact h5
        obtain ⟨ax, cx, hx5⟩ := own_form HO.out
        subst hx5
        have hp10 : ps.length ≤ 10 := by have := ML.out; omega
        have JC := Lib.hid (join_calls ps ax cx wr (PA.out _ _ _ rfl) (fun z hz wx hbx => (HPS.out z hz).2 wx (HBr.out.trans (hbx.mono HBr.out.size))) (fun z hz => (HPS.out z hz).1) hp10)
        rw [ML.out] at JC
        have JL := joinB_len (ps.map Pz.key) (fun z hz => by
          obtain ⟨y, hy, rfl⟩ := List.mem_map.1 hz
          exact (HPS.out y hy).1.n)
        rw [List.length_map] at JL
        have JP := Lib.hid (joinB_part (ps.map Pz.key) (fun z hz => by
          obtain ⟨y, hy, rfl⟩ := List.mem_map.1 hz
          have h := (HPS.out y hy).1
          exact ⟨h.k, h.b, h.n⟩))
        have JB : Hid (∀ x ∈ joinB (ps.map Pz.key), x < 256) := by
          have : ∀ L : List (Nat × List Nat), (∀ z ∈ L, z.1 < 256 ∧ ∀ x ∈ z.2, x < 256) → ∀ x ∈ joinB L, x < 256 := by
            intro L
            induction L with
            | nil => intro _ x hx; cases hx
            | cons z r ih =>
              intro h x hx
              rw [joinB, List.mem_append] at hx
              rcases hx with hx | hx
              · exact piece_lt (h z (by simp)).1 (h z (by simp)).2 x hx
              · exact ih (fun y hy => h y (List.mem_cons_of_mem _ hy)) x hx
          refine this _ (fun z hz => ?_)
          obtain ⟨y, hy, rfl⟩ := List.mem_map.1 hz
          have h := (HPS.out y hy).1
          exact ⟨h.k, h.b⟩
        have JL2 := Lib.hid JL
        clear JL HO PA hT hlt
        generalize hjb : joinB (ps.map Pz.key) = JJ at *
        clear hjb
        have PC : Hid (∀ (w2 : World) (pv : Value), Bs wr wr.heap.size pv JJ w2 → Calls Try.prog 16 #[pv] w2 fun e w' => ∃ (ay : Option Addr) (cy : Nat) (zy : List Pz), e = .returned (.tuple #[.slice ay ks.length cy, .int .i64 0]) ∧ zy.map Pz.key = ps.map Pz.key ∧ Below w2.heap.size w2 w' ∧
            w'.ownsRow w2.heap.size 40 2 (.slice ay ks.length cy) ks.length (flat Pz.cells zy) ∧ ∀ z ∈ zy, ∀ wx, Below w'.heap.size w' wx → Row wx enc8 z.v z.b) := by
          intro w2 pv hb2
          refine (part_calls JJ pv w2 hb2.row JB.out (by have := JL2.out; omega)).mono ?_
          rintro e w' ⟨hb, ⟨c, hc, _⟩ | ⟨yv, zy, hy, rfl, ho, hrow⟩⟩
          · rw [JP.out _ (Nat.le_refl _)] at hc; cases hc
          · rw [JP.out _ (Nat.le_refl _)] at hy
            injection hy with hy
            have hl : zy.length = ks.length := by
              have h := congrArg List.length hy
              rw [List.length_map, List.length_map] at h
              have := ML.out; omega
            obtain ⟨ay, cy, rfl⟩ := own_form ho
            rw [hl] at ho ⊢
            exact ⟨ay, cy, zy, rfl, hy.symm, hb, ho, hrow⟩
        clear JP JB
        go_upto_region 14 with (first
          | (go_at_call 17; refine JC.out.mono ?_; rintro e w2 ⟨pv, rfl, b2⟩; have B2 := Lib.hid b2; clear b2)
          | (go_at_call 16; refine (PC.out _ _ B2.out).mono ?_; rintro e w3 ⟨ay, cy, zy, rfl, hzy, hb3, hoy, hry⟩; have ZY := Lib.hid hzy; have HB3 := Lib.hid hb3; have HOY := Lib.hid hoy; have HRY := Lib.hid hry; clear hzy hb3 hoy hry))
        have B3 := Lib.hid (B2.out.step HB3.out)
        have HBr2 : Hid (Below w.heap.size w w3) := HBr.out.trans (B3.out.bel.mono HBr.out.size)
        have W3 := Lib.hid (HW.out.step B3.out.bel)
        have s1 := run_string (P := Try.prog) w3 22 9 5 Try.underlying22 Try.underlying5 Try.underlying9 _ _ B3.out.row
        have s2 := run_string (P := Try.prog) w3 22 9 5 Try.underlying22 Try.underlying5 Try.underlying9 _ _ W3.out.row
        clear JC PC B2 HB3 HBr HW B3 W3
        generalize strOf JJ = SJ at *
        go_upto_region 17 with (fail)
        clear s1 s2
        have HB0 := Lib.hid (Below.refl w3.heap.size w3)
        go_loopw [11] (fun i wr => ∃ j : Nat, j ≤ ks.length ∧ i = .int .i64 j ∧ Below w3.heap.size w3 wr) (fun i _ => ks.length - (intOf i).toNat)
        case atStart => exact ⟨0, Nat.zero_le _, rfl, HB0.out⟩
        case round =>
          clear HB0
          obtain ⟨j, hj, rfl, hb⟩ := hrel
          have HB4 := Lib.hid hb
          clear hb
          by_cases hlt : j < ks.length
          · have hkx : ks[j]? = some ks[j] := List.getElem?_eq_getElem hlt
            have hzx : zs[j]? = some (zs[j]'(by omega)) := List.getElem?_eq_getElem (by omega)
            have hpx := MG.out j _ _ hkx hzx
            have hyl : j < zy.length := by
              have h := congrArg List.length ZY.out
              rw [List.length_map, List.length_map] at h
              have := ML.out; omega
            have hyx : zy[j]? = some zy[j] := List.getElem?_eq_getElem hyl
            have hkey : zy[j].key = (mkP ks[j] (zs[j]'(by omega))).key := by
              have h : (zy.map Pz.key)[j]? = (ps.map Pz.key)[j]? := by rw [ZY.out]
              rw [List.getElem?_map, List.getElem?_map, hyx, hpx] at h
              exact Option.some.inj h
            have HB5 : Below w.heap.size w wr := HBr2.out.trans (HB4.out.mono HBr2.out.size)
            obtain ⟨hz1, hz2, hz3, zg, zo, rfl, hz4⟩ := HZ.out j _ hzx
            obtain ⟨ad, rfl⟩ := row_some (KR.out _ HB5) (by omega)
            have kc0 : wr.cell? (ad.add j) = some (.int .u8 ((ks[j] : Nat) : Int)) := by
              rcases KR.out wr HB5 with ⟨h, _⟩ | ⟨ad2, c2, h, _, hc⟩
              · cases h
              · injection h with h1 _ _
                injection h1 with h1
                subst h1
                exact hc j _ hkx
            obtain ⟨gy, cpy, spy, hv2, _, _, _, hby⟩ := sl_form HOY.out (by omega)
            obtain ⟨rfl, rfl⟩ : ay = some ⟨gy, 0, none⟩ ∧ cy = cpy := by
              injection hv2 with h1 _ h3
              exact ⟨h1, h3⟩
            have hby4 := hby.below HB4.out hby.lt
            have hfl := flat_length pz2 zy
            have y0 : wr.cell? ⟨gy, j * 2, none⟩ = some (.int .u8 ((zy[j].k : Nat) : Int)) := by
              refine hby4.cellAt ?_
              have h := flat_get pz2 hyx (j := 0) (by omega)
              rw [List.getElem?_append_left (by rw [hfl]; omega)]
              exact h
            have y1 : wr.cell? ⟨gy, j * 2 + 1, none⟩ = some zy[j].v := by
              refine hby4.cellAt ?_
              have h := flat_get pz2 hyx (j := 1) (by omega)
              rw [List.getElem?_append_left (by rw [hfl]; omega)]
              exact h
            have zc0 := hz4 wr HB5
            have r1 := HRY.out _ (List.getElem_mem hyl) wr HB4.out
            have r2 := hz3 wr HB5
            have hk1 : zy[j].k = ks[j] := congrArg Prod.fst hkey
            have hk2 : zy[j].b = (zs[j]'(by omega)).b := congrArg Prod.snd hkey
            rw [hk1] at y0
            rw [hk2] at r1
            have s1 := fun n => run_string (P := Try.prog) (wr.drewN n) 22 9 5 Try.underlying22 Try.underlying5 Try.underlying9 _ _ (r1.drewN n)
            have s2 := fun n => run_string (P := Try.prog) (wr.drewN n) 22 9 5 Try.underlying22 Try.underlying5 Try.underlying9 _ _ (r2.drewN n)
            have hji : (j : Int) < (ks.length : Int) := by omega
            have hj0 : 0 ≤ (j : Int) := by omega
            have hjz : (j : Int) < (zs.length : Int) := by omega
            clear hkey hk1 hk2 r1 r2 hby hby4 hfl hv2 hz1 hz2 hz3 hz4 hyx hpx hkx hzx HZ KR KL MG ML HRY HOY ZY HB5
            generalize strOf (zs[j]'(by omega)).b = SS at *
            generalize zy[j].v = vy at *
            generalize (zs[j]'(by omega)).v = vz at *
            generalize ((ks[j] : Nat) : Int) = kd at *
            go_upto_region 19 with (fail)
            go_quiet (fail)
            have HB6 : Hid (Below w3.heap.size w3 (wr.drewN nq)) := below_drewN HB4.out nq
            generalize wr.drewN nq = w6 at *
            go_wp2_with fail
            go_roundw
            case rel => exact ⟨j + 1, by omega, by go_num, HB6.out⟩
            case measure => simp [intOf]; omega
          · obtain rfl : j = ks.length := by omega
            go_wp2_with fail
            go_ret
            exact ⟨rfl, HBr2.out.trans (HB4.out.mono HBr2.out.size)⟩
  · have hcase : 10 < (ks.length : Int) ∨ (¬ 10 < (ks.length : Int) ∧ (zs.length : Int) < (ks.length : Int)) := by omega
    clear hkr hkl hkm hz f0 f1 hok
    generalize ks.length = n at *
    generalize zs.length = m at *
    rcases hcase with h1 | ⟨h1, h2⟩
    all_goals
      go_enter Try.func6, Try.ntmps6
      go_wp2_with fail
      refine (awake_calls _).mono ?_
      rintro e w1 ⟨rfl, hb⟩
      have HB := Lib.hid hb
      clear hb
      go_wp2_with fail
      refine (awake_calls _).mono ?_
      rintro e w2 ⟨rfl, hb2⟩
      have HB2 := Lib.hid hb2
      clear hb2
      go_wp2_with fail
      go_ret
      exact ⟨rfl, HB.out.trans (HB2.out.mono HB.out.size)⟩
end Go.Proofs.Ytpimjioamoaejaa.Walks
