/- Walks through the functions of the statement, and the statement over them: each contract says what the call answers and that nothing else changes. -/
import Derived.Test.YtpimjioamoaejaaProg
import Derived.Laws.BytesString
import Derived.Test.YtpimjioamoaejaaBits
import Derived.Test.YtpimjioamoaejaaHeap
import Derived.Test.YtpimjioamoaejaaAid
import Derived.Lib.Hide
import Derived.Test.YtpimjioamoaejaaArr
import Derived.Test.YtpimjioamoaejaaEql
import Derived.Test.YtpimjioamoaejaaWalkSums
import Derived.Test.YtpimjioamoaejaaWalkApp
import Derived.Test.YtpimjioamoaejaaWalkEye
import Derived.Test.YtpimjioamoaejaaWalkPart
import Derived.WalkKit
import Derived.WalkSpells
import Derived.WalkLawsBesides
import Derived.Deep.QuietTactic
import Derived.BigQuiet
import Derived.Deep.RegionHeld3
import Derived.Deep.DeepCutAuto
import Derived.Deep.CutBlock
import Derived.Lib.SlBytesConst
import Derived.StillTailTactics
import Derived.Laws.MakeOwn
import Derived.Deep.AppendLies
import Derived.Laws.CopyOwn
import Derived.Maps.AppendAt
import Derived.Deep.Upon
import Derived.Deep.AppendSrc
import Derived.RegionTactic
namespace Go.Proofs.Ytpimjioamoaejaa.Walks
set_option linter.unusedVariables false
set_option linter.unusedSimpArgs false
open Go.RowKit Go.Proofs.Ytpimjioamoaejaa.Bits Go.Proofs.Ytpimjioamoaejaa.Heap Go.Proofs.Ytpimjioamoaejaa.Aid Go.Proofs.Ytpimjioamoaejaa.Arr Go.Proofs.Ytpimjioamoaejaa.Eql

/-- Is this call ahead, at a step of a region that draws? -/
theorem call_gate {P : Program} {ops : Array Oper} {a : Act} {w : World} {K : Act → World → Prop} {Q : Exit → Act → World → Prop} {E : Prop} {dst : Option Tmp} {t : TypeId} {pos : String} {aft : Array Edge} {g : Option (Nat × Bool)} {args : Array Operand} {ats : Array TypeId} (f : FuncId)
    (h : if Region.wanted ⟨dst, .call { callee := .value (.func f), args := args, argTypes := ats }, t, pos, aft, g⟩ (yielded ops a.tmps) = true then Oper.wp P ⟨dst, .call { callee := .value (.func f), args := args, argTypes := ats }, t, pos, aft, g⟩ a w K Q else E) :
    if Region.wanted ⟨dst, .call { callee := .value (.func f), args := args, argTypes := ats }, t, pos, aft, g⟩ (yielded ops a.tmps) = true then Oper.wp P ⟨dst, .call { callee := .value (.func f), args := args, argTypes := ats }, t, pos, aft, g⟩ a w K Q else E := h
theorem joinB_snoc (l : List (Nat × List Nat)) (z : Nat × List Nat) : joinB (l ++ [z]) = joinB l ++ pieceB z.1 z.2 := by
  induction l with
  | nil => simp [joinB]
  | cons x r ih => rw [List.cons_append, joinB, joinB, ih, List.append_assoc]
theorem joinB_len (l : List (Nat × List Nat)) (h : ∀ z ∈ l, z.2.length ≤ 100) : (joinB l).length ≤ 109 * l.length := by
  induction l with
  | nil => simp [joinB]
  | cons x r ih =>
    have h1 := h x (by simp)
    have h2 := ih (fun z hz => h z (by simp [hz]))
    rw [joinB, List.length_append, List.length_cons]
    have : (pieceB x.1 x.2).length = 9 + x.2.length := by unfold pieceB; rw [List.length_append, leB_length, body_len]; omega
    omega
theorem leB_take (v : Nat) : (leB 8 v).take 4 = leB 4 v := rfl
/-- Pieces as they came: where their cells lie, in whatever later world. -/
def PiecesAt (w : World) (a : Option Addr) (zs : List Pz) : Prop := ∀ i z, zs[i]? = some z → ∃ g o, a = some ⟨g, o, none⟩ ∧ ∀ wx, Below w.heap.size w wx → wx.rangeAt g (o + i * 2) z.cells
structure Pz.Ok (z : Pz) : Prop where
  k : z.k < 256
  b : ∀ x ∈ z.b, x < 256
  n : z.b.length ≤ 100
theorem size2 : (Try.prog.info? 40).map (·.size) = some 2 := by kernel_rfl
/-- One byte in a block of its own, and a word's bytes in another: in either order. -/
theorem two_ways (W : World) (k n : Nat) : ∃ WA WB : World,
    WA = ((W.drewN 1).alloc (.cells #[.int .u8 (k : Int)] 5)).alloc (.cells ((leB 8 n).map enc8).toArray 5) ∧ WB = ((W.drewN 1).alloc (.cells ((leB 8 n).map enc8).toArray 5)).alloc (.cells #[.int .u8 (k : Int)] 5) ∧
    Below W.heap.size W WA ∧ Below W.heap.size W WB ∧
    WA.ownsRow W.heap.size 5 1 (.slice (some ⟨W.heap.size, 0, none⟩) 1 1) 1 ([k].map enc8) ∧ Row WA enc8 (.slice (some ⟨W.heap.size + 1, 0, none⟩) 4 8) (leB 4 n) ∧
    WB.ownsRow W.heap.size 5 1 (.slice (some ⟨W.heap.size + 1, 0, none⟩) 1 1) 1 ([k].map enc8) ∧ Row WB enc8 (.slice (some ⟨W.heap.size, 0, none⟩) 4 8) (leB 4 n) := by
  obtain ⟨a1, a2, a3, a4⟩ := blocks2 (W.drewN 1) #[.int .u8 (k : Int)] ((leB 8 n).map enc8).toArray 5 5 _ rfl
  obtain ⟨b1, b2, b3, b4⟩ := blocks2 (W.drewN 1) ((leB 8 n).map enc8).toArray #[.int .u8 (k : Int)] 5 5 _ rfl
  have hd : Below W.heap.size W (W.drewN 1) := below_drewN (Below.refl _ W) 1
  have hrow : ∀ (X : World) (b : Nat), Blk X b ((leB 8 n).map enc8) 5 → Row X enc8 (.slice (some ⟨b, 0, none⟩) 4 8) (leB 4 n) := by
    intro X b h
    have h1 := Row.of_blk h
    rw [leB_length] at h1
    have h2 := row_head h1 4 8 (by rw [leB_length]; omega) (by omega)
    exact h2
  refine ⟨_, _, rfl, rfl, hd.trans a1, hd.trans b1, owns_blk (cs := [k].map enc8) a3 (Nat.le_refl _) (by simp [maxLen]), hrow _ _ a4, owns_blk (cs := [k].map enc8) b4 (by omega) (by simp [maxLen]), hrow _ _ b3⟩
theorem Bs.apart {w0 w w' : World} {base base2 : Nat} {v v2 : Value} {l l2 : List Nat} (h : Bs w0 base v l w) (h2 : Bs w0 base2 v2 l2 w) (hne : ∀ g, v.ownBlock = some g → v2.ownBlock ≠ some g) (hg : w.grownBy w' v2.ownBlock) : Bs w0 base v l w' :=
  ⟨below_grown h.bel hg (fun k hk => Nat.le_trans h2.n (own_ge h2.r k hk)), h.n, Nat.le_trans h.m hg.size, sl_keep h.r (keep_grown hg) hne⟩
theorem body_fin {w W1 W2 w5 : World} {v5 vv : Value} {k : Nat} {l : List Nat} (hb : Below w.heap.size w W1) (BA : Below W1.heap.size W1 W2) (own : W2.ownsRow W1.heap.size 5 1 vv 1 ([k].map enc8)) (hgrow : W2.grownBy w5 vv.ownBlock)
    (hown : w5.ownsRow W1.heap.size 5 1 v5 (1 + l.length) ([k].map enc8 ++ l.map enc8)) : Bs w W1.heap.size v5 (k :: l) w5 ∧ Below W1.heap.size W1 w5 := by
  have h1 := below_grown BA hgrow (fun g hg => own_ge own g hg)
  refine ⟨⟨hb.trans (h1.mono hb.size), hb.size, h1.size, ?_⟩, h1⟩
  rw [List.length_cons, Nat.add_comm]
  exact hown
set_option maxHeartbeats 8000000 in
theorem join_calls (zs : List Pz) (a : Option Addr) (cap : Nat) (w : World) (hp : PiecesAt w a zs) (hr : ∀ z ∈ zs, ∀ wx, Below w.heap.size w wx → Row wx enc8 z.v z.b) (ho : ∀ z ∈ zs, z.Ok) (hn : zs.length ≤ 10) :
    Calls Try.prog 17 #[.slice a zs.length cap] w (BytesP w (joinB (zs.map Pz.key))) := by
  obtain ⟨ii, hii, hz, hs, hb⟩ := byte_info
  have HI := Lib.hid hii
  have HZ := Lib.hid hz
  have HSz := Lib.hid hs
  have HBy := Lib.hid hb
  have HP := Lib.hid hp
  have HR := Lib.hid hr
  have HO := Lib.hid ho
  have I2 := Lib.hid size2
  have hni : (zs.length : Int) ≤ 10 := by omega
  clear hii hz hs hb hp hr ho
  go_enter Try.func17, Try.ntmps17
  go_upto_region 3 with (fail)
  have B0 := Lib.hid ((Bs.nil (Below.refl w.heap.size w)))
  go_loopw [3, 9] (fun ov i wr => ∃ k : Nat, k ≤ zs.length ∧ i = .int .i64 k ∧ Bs w w.heap.size ov (joinB ((zs.take k).map Pz.key)) wr) (fun _ i _ => zs.length - (intOf i).toNat)
  case atStart => exact ⟨0, Nat.zero_le _, rfl, B0.out⟩
  case round =>
    clear B0
    obtain ⟨k, hk, rfl, b1⟩ := hrel
    have B1 := Lib.hid b1
    clear b1
    by_cases hlt : k < zs.length
    · have hx : zs[k]? = some zs[k] := List.getElem?_eq_getElem hlt
      have hk0 : 0 ≤ (k : Int) := by omega
      have hki : (k : Int) < (zs.length : Int) := by omega
      obtain ⟨g, o, rfl, hrg⟩ := HP.out k _ hx
      have RG := Lib.hid (hrg wr B1.out.bel)
      have RZ := Lib.hid (HR.out _ (List.getElem_mem hlt))
      have OZ := Lib.hid (HO.out _ (List.getElem_mem hlt))
      have JS : Hid (joinB ((zs.take (k + 1)).map Pz.key) = joinB ((zs.take k).map Pz.key) ++ pieceB zs[k].k zs[k].b) := by
        show _ = _
        rw [List.take_succ_eq_append_getElem hlt, List.map_append]
        exact joinB_snoc _ _
      have AL : Hid ((joinB ((zs.take k).map Pz.key)).length ≤ 1090) := by
        have h := joinB_len ((zs.take k).map Pz.key) (fun z hz => by
          obtain ⟨y, hy, rfl⟩ := List.mem_map.1 hz
          exact (HO.out y (List.mem_of_mem_take hy)).n)
        rw [List.length_map, List.length_take] at h
        exact Lib.hid (by omega)
      generalize joinB ((zs.take k).map Pz.key) = acc at *
      clear hrg hx
      generalize zs[k] = z at *
      obtain ⟨zk, zb, za, zc⟩ := z
      have OK := Lib.hid (OZ.out.k)
      have OB := Lib.hid (OZ.out.b)
      have ON := Lib.hid (OZ.out.n)
      simp only at OK OB ON JS
      have RG2 : Hid (wr.rangeAt g (o + k * 2) [.int .u8 (zk : Int), .slice za zb.length zc]) := RG.out
      have RZ2 : Hid (∀ wx, Below w.heap.size w wx → Row wx enc8 (.slice za zb.length zc) zb) := RZ.out
      have BR : Hid (Bs w w.heap.size u3 acc wr) := B1.out
      clear RG RZ OZ B1
      go_upto_region 5 with (((with_reducible refine load_gate (40) (11) ?_); refine wpList_load_mid rfl 40 (.tmp 11) rfl g (o + k * 2) rfl [.int .u8 (zk : Int), .slice za zb.length zc] _ RG2.out Try.underlying40 rfl I2.out ?_))
      have X1 := Lib.hid (Own.new BR.out.bel #[.int .u8 (zk : Int), .slice za zb.length zc] 40)
      have BR1 := Lib.hid (BR.out.step ((Below.refl _ _).alloc (Nat.le_refl _) (.cells #[.int .u8 (zk : Int), .slice za zb.length zc] 40)))
      have OL : Hid (∀ g, u3.ownBlock = some g → g < wr.heap.size) := BR.out.lt
      have NB : Hid (w.heap.size ≤ wr.heap.size) := BR.out.bel.size
      clear BR RG2
      generalize wr.alloc (.cells #[.int .u8 (zk : Int), .slice za zb.length zc] 40) = W1 at *
      generalize wr.heap.size = NX at *
      obtain ⟨WA, WB, hA, hB, bA, bB, oA, rA, oB, rB⟩ := two_ways W1 zk zb.length
      have d0 := X1.out.cell (i := 0) rfl
      have d1 := X1.out.cell (i := 1) rfl
      have HA0 := Lib.hid (fun W (h : Below W1.heap.size W1 W) => (X1.out.step h).cell (i := 0) rfl)
      have HA1 := Lib.hid (fun W (h : Below W1.heap.size W1 W) => (X1.out.step h).cell (i := 1) rfl)
      have da0 := HA0.out _ ((Below.refl _ W1).alloc (Nat.le_refl _) (.cells #[.int .u8 (zk : Int)] 5))
      have da1 := HA1.out _ ((Below.refl _ W1).alloc (Nat.le_refl _) (.cells #[.int .u8 (zk : Int)] 5))
      have db0 := HA0.out _ ((Below.refl _ W1).alloc (Nat.le_refl _) (.cells ((leB 8 zb.length).map enc8).toArray 5))
      have db1 := HA1.out _ ((Below.refl _ W1).alloc (Nat.le_refl _) (.cells ((leB 8 zb.length).map enc8).toArray 5))
      subst hA hB
      have OA := Lib.hid oA
      have RA := Lib.hid rA
      have OB2 := Lib.hid oB
      have RB := Lib.hid rB
      have BA := Lib.hid bA
      have BB := Lib.hid bB
      have LL := Lib.hid (leB_length 4 zb.length)
      have hz0 : 0 ≤ (zb.length : Int) := by omega
      have hz1 : (zb.length : Int) ≤ 100 := by have := ON.out; omega
      clear oA rA oB rB bA bB
      have BC := Lib.hid (fun W => bytes_calls zb.length W)
      generalize ((leB 8 zb.length).map enc8).toArray = C8 at *
      have hwz : IntKind.u64.wrap (zb.length : Int) = (zb.length : Int) := by simp [IntKind.wrap, IntKind.signed, IntKind.bits]; omega
      go_cut [6] (fun sv wx => Bs w W1.heap.size sv (zk :: leB 4 zb.length) wx ∧ Bs w w.heap.size u3 acc wx ∧ Own w NX [.int .u8 (zk : Int), .slice za zb.length zc] 40 wx)
      case first =>
        go_region_law (first
          | (refine step_append_row enc8_one (by rfl) (.tmp 15) (.tmp 21) 22 (by rfl) W1.heap.size 5 ii _ 1 Try.underlying22 HI.out HZ.out HSz.out HBy.out (by rfl) _ 1 _ (by rfl) (by first | exact OA.out | exact OB2.out) _ (leB 4 zb.length) (by rfl) (by first | exact RA.out | exact RB.out) (by rw [LL.out]; unfold maxLen; omega) (by rw [LL.out]; omega) (by simp; omega) ?_; intro v5 w5 hown hgrow hat; have F5 : Hid (Bs w W1.heap.size v5 (zk :: leB 4 zb.length) w5 ∧ Below W1.heap.size W1 w5) := (by first | exact body_fin BR1.out.bel BA.out OA.out hgrow hown | exact body_fin BR1.out.bel BB.out OB2.out hgrow hown); clear hown hgrow hat)
          | ((with_reducible refine call_gate 24 ?_); go_simp; go_at_call 24; refine (BC.out _).mono ?_; rintro e w' ⟨rfl, rfl⟩))
        all_goals
          have BR5 := Lib.hid (BR1.out.step F5.out.2)
          go_wp2_with fail
          go_meet
          exact ⟨F5.out.1, BR5.out, X1.out.step F5.out.2⟩
      case rest =>
        obtain ⟨q1, q2, q3⟩ := hcut
        have L1 : (zk :: leB 4 zb.length).length = 5 := by simp [leB_length]
        have NW : Hid (NX < W1.heap.size) := X1.out.lt
        have BD1 := Lib.hid q1
        have BO1 := Lib.hid q2
        have CX := Lib.hid q3
        clear BC RB OB2 RA OA BA BB LL da0 da1 db0 db1 d0 d1 HA0 HA1 X1 BR1 q1 q2 q3
        have d1 := CX.out.cell (i := 1) rfl
        have RZ3 := Lib.hid (RZ2.out _ BD1.out.bel)
        have NW2 : Hid (W1.heap.size ≤ wc.heap.size) := BD1.out.m
        have BD1r := Lib.hid BD1.out.r
        rw [L1] at BD1r
        have LB := Lib.hid (show (zk :: leB 4 zb.length) ++ zb = bodyB zk zb from rfl)
        have GB := Lib.hid (fun v' w' => @Bs.grow w _ w' _ _ v' _ zb BD1.out)
        rw [LB.out, L1] at GB
        have AB := Lib.hid (fun w' => @Bs.apart w _ w' _ _ _ _ _ _ BO1.out BD1.out (fun g h1 h2 => by
          have e1 := OL.out g h1
          have e2 := own_ge BD1.out.r g h2
          have := NW.out
          omega))
        have BL := Lib.hid (body_lt OK.out OB.out)
        have BN := Lib.hid (body_len zk zb)
        have PB := Lib.hid (show leB 4 (crc (bodyB zk zb)) ++ bodyB zk zb = pieceB zk zb from rfl)
        have CL := Lib.hid (crc_lt _ (body_lt OK.out OB.out))
        clear L1 BD1 BO1 LB RZ2
        generalize pieceB zk zb = PC at *
        generalize bodyB zk zb = BD at *
        generalize W1.heap.size = NB1 at *
        generalize (zk :: leB 4 zb.length) = b5 at *
        go_upto_region 7 with (at_builtin; refine wpList_append_row enc8_one (by rfl) _ _ _ (by rfl) NB1 5 ii _ 1 Try.underlying22 HI.out HZ.out HSz.out HBy.out (by rfl) _ 5 _ (by rfl) BD1r.out _ zb (by rfl) RZ3.out (by unfold maxLen; omega) (by omega) NW2.out ?_; intro v6 w6 hown hgrow hat; have BB6 := Lib.hid (GB.out _ _ hown hgrow); have BO6 := Lib.hid (AB.out _ hgrow); clear hown hgrow hat)
        have S6 := Lib.hid (sum_calls BD v6 w6 BB6.out.row BL.out (by have := BN.out; omega))
        have B6 := Lib.hid (bytes_calls (crc BD) w6)
        have hbel6 := (Below.refl w6.heap.size w6).alloc (Nat.le_refl _) (.cells ((leB 8 (crc BD)).map enc8).toArray 5)
        have BO7 := Lib.hid (BO6.out.step hbel6)
        have BB7 := Lib.hid (BB6.out.step hbel6)
        have R7 : Hid (Row (w6.alloc (.cells ((leB 8 (crc BD)).map enc8).toArray 5)) enc8 (.slice (some ⟨w6.heap.size, 0, none⟩) 4 8) (leB 4 (crc BD))) := by
          have h1 := Row.of_blk (Blk.new w6 ((leB 8 (crc BD)).map enc8).toArray 5) (enc := enc8) (l := leB 8 (crc BD))
          rw [leB_length] at h1
          exact row_head h1 4 8 (by rw [leB_length]; omega) (by omega)
        have hcb : (crc BD : Int) ≤ 4294967295 := by have := CL.out; omega
        have L4 := Lib.hid (leB_length 4 (crc BD))
        clear hbel6 BO6 BB6 CL AB GB BD1r RZ3 BL d1 CX
        generalize w6.alloc (.cells ((leB 8 (crc BD)).map enc8).toArray 5) = w7 at *
        generalize w6.heap.size = N6 at *
        generalize crc BD = C at *
        have GO := Lib.hid (fun v' w' => @Bs.grow w _ w' _ _ v' _ (leB 4 C) BO7.out)
        have AO := Lib.hid (fun w' => @Bs.apart w _ w' _ _ _ _ _ _ BB7.out BO7.out (fun g h1 h2 => by
          have e1 := OL.out g h2
          have e2 := own_ge BB7.out.r g h1
          have := NW.out
          omega))
        have BO7r := Lib.hid BO7.out.r
        have M7 : Hid (w.heap.size ≤ w7.heap.size) := BO7.out.bel.size
        have GG := Lib.hid (fun (v w8 v' w') (b8 : Bs w w.heap.size v (acc ++ leB 4 C) w8) => @Bs.grow w w8 w' _ v v' _ BD b8)
        generalize leB 4 C = l4 at *
        obtain ⟨a6, c6, hv6⟩ := BB7.out.row.form
        subst hv6
        clear BO7 BB7
        go_wp2_with (first
          | (go_at_call 9; refine S6.out.mono ?_; rintro e w' ⟨rfl, rfl⟩)
          | (go_at_call 24; refine B6.out.mono ?_; rintro e w' ⟨rfl, rfl⟩)
          | (at_builtin; refine wpList_append_row enc8_one (by rfl) (.tmp 27) _ _ (by rfl) w.heap.size 5 ii _ 1 Try.underlying22 HI.out HZ.out HSz.out HBy.out (by rfl) _ acc.length _ (by rfl) BO7r.out _ l4 (by rfl) R7.out (by rw [L4.out]; have := AL.out; unfold maxLen; omega) (by rw [L4.out]; have := AL.out; omega) M7.out ?_; intro v8 w8 hown hgrow hat; have BO8 := Lib.hid (GO.out _ _ hown hgrow); have BB8 := Lib.hid (AO.out _ hgrow); clear hown hgrow hat)
          | (at_builtin; refine wpList_append_row enc8_one (by rfl) (.tmp 33) _ _ (by rfl) w.heap.size 5 ii _ 1 Try.underlying22 HI.out HZ.out HSz.out HBy.out (by rfl) _ _ _ (by rfl) BO8.out.r _ BD (by rfl) BB8.out.row (by rw [List.length_append, L4.out, BN.out]; have := AL.out; have := ON.out; unfold maxLen; omega) (by rw [List.length_append, L4.out, BN.out]; have := AL.out; have := ON.out; omega) BO8.out.bel.size ?_; intro v9 w9 hown hgrow hat; have BO9 := Lib.hid (GG.out _ _ _ _ BO8.out hown hgrow); clear hown hgrow hat))
        go_roundw
        case rel => exact ⟨k + 1, by omega, by go_num, by rw [JS.out, ← PB.out, ← List.append_assoc]; exact BO9.out⟩
        case measure => simp [intOf]; omega
    · obtain rfl : k = zs.length := by omega
      rw [List.take_of_length_le (Nat.le_refl _)] at B1
      go_wp2_with fail
      go_ret
      exact ⟨_, rfl, B1.out⟩
end Go.Proofs.Ytpimjioamoaejaa.Walks
