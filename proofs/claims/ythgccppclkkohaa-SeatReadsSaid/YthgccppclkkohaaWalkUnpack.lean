/- Walks through the functions of the statement, and the statement over them: each contract says what the call answers and that nothing else changes. -/
import Derived.Test.YthgccppclkkohaaProg
import Derived.Test.YthgccppclkkohaaWalkSeat
import Derived.Test.YthgccppclkkohaaWalkSeat2
import Derived.Test.YthgccppclkkohaaBits
import Derived.Test.YthgccppclkkohaaHeap
import Derived.Test.YthgccppclkkohaaAid
import Derived.Lib.Hide
import Derived.Test.YthgccppclkkohaaArr
import Derived.Test.YthgccppclkkohaaEql
import Derived.WalkKit
import Derived.WalkSpells
import Derived.WalkLawsBesides
import Derived.Deep.QuietTactic
import Derived.BigQuiet
import Derived.Deep.RegionHeld3
import Derived.Deep.DeepCutAuto
import Derived.Deep.CutBlock
import Derived.Lib.SlBytesConst
import Derived.StillTailTactics
import Derived.Laws.MakeOwn
import Derived.Deep.AppendLies
import Derived.RegionTactic
import Derived.Deep.RegionLaw
namespace Go.Proofs.Ythgccppclkkohaa.Walks
set_option linter.unusedVariables false
set_option linter.unusedSimpArgs false
open Go.RowKit Go.Proofs.Ythgccppclkkohaa.Bits Go.Proofs.Ythgccppclkkohaa.Heap Go.Proofs.Ythgccppclkkohaa.Aid Go.Proofs.Ythgccppclkkohaa.Arr Go.Proofs.Ythgccppclkkohaa.Eql


theorem wpList_copy_any {P : Program} {w : World} {ops : Array Oper} {rest : List Oper} {o : Oper} {a : Act} {Q : Exit → Act → World → Prop} (hgd : o.guard = none) (d s : Operand) (dT sT : TypeId)
    (ho : o.op = .call { callee := .builtin .copy, args := #[d, s], argTypes := #[dT, sT] }) (elem : TypeId) (hu : P.underlying dT = some (.slice elem)) (hsz : (P.info? elem).map (·.size) = some 1)
    (g off dLen dCap : Nat) (ad : Addr) (sLen sCap : Nat) (hd : a.eval d = .slice (some ⟨g, off, none⟩) dLen dCap) (hs : a.eval s = .slice (some ad) sLen sCap) (cs : List Value) (hn : cs.length = Nat.min sLen dLen)
    (hsrc : ∀ j v, cs[j]? = some v → w.cell? (ad.add j) = some v) (hc : ∀ j, j < cs.length → (w.cell? ⟨g, off + j, none⟩).isSome = true) (hf : ∀ j, j < cs.length → w.frozen? ⟨g, off + j, none⟩ = false) (h1 : ∀ v ∈ cs, v.oneCell' = true)
    (h : wpList P ops Q rest (a.put o.dst (goInt cs.length)) (w.setCells g off cs)) : wpList P ops Q (o :: rest) a w := by
  refine wpList_plain hgd fun K hK => ?_
  have hrun := run_copy_cells (P := P) w dT sT o.type elem g off dLen dCap ad sLen sCap cs hu hsz hn hsrc hc hf h1
  unfold Oper.wp
  simp [execOp, ho, resolve, invoke, builtin, hd, hs, hrun, Result.andThen]
  exact hK _ _ h

theorem Own.setHead {w w1 : World} {b : Nat} {cs : List Value} {t : TypeId} (h : Own w b cs t w1) (vs : List Value) (hl : vs.length ≤ cs.length) : Own w b (vs ++ cs.drop vs.length) t (w1.setCells b 0 vs) :=
  ⟨below_setCells h.bel h.n 0 vs, h.n, by
    rcases Blk.setCells h.k 0 vs with k | k
    · simpa using k
    · omega⟩
theorem set_one {l : List Value} {i : Nat} {u : Value} (h : ∀ v ∈ l, v.oneCell' = true) (hu : u.oneCell' = true) : ∀ v ∈ l.set i u, v.oneCell' = true := by
  intro v hv
  rcases List.mem_or_eq_of_mem_set hv with h1 | h1
  · exact h v h1
  · rw [h1]; exact hu
set_option maxRecDepth 8000 in
set_option maxHeartbeats 4000000 in
theorem unpack_ok (x : Se) (h : x.Ok) (hs : x.st ≤ 2) (hp : x.pe < 256) (hm : x.ma < 256) (ad : Addr) (cp : Nat) (w : World) (hr : ∀ k, k < 26 → ∀ wx, Below w.heap.size w wx → wx.cell? (ad.add k) = some (.int .u64 (((packL x).getD k 0 : Nat) : Int))) :
    Calls Try.prog 16 #[.slice (some ad) 26 cp] w fun e w' => e = .returned (.tuple #[.agg x.cells.toArray, .bool true]) ∧ Below w.heap.size w w' := by
  have hl := h.l
  have pg : ∀ k, k < 22 → (packL x).getD k 0 = x.r.getD k 0 := fun k hk => by
    rw [List.getD_eq_getElem?_getD, List.getD_eq_getElem?_getD, packL, List.getElem?_append_left (by omega)]
  have p22 : (packL x).getD 22 0 = flagN x.op := by simp [packL, List.getD_eq_getElem?_getD, hl]
  have p23 : (packL x).getD 23 0 = x.st := by simp [packL, List.getD_eq_getElem?_getD, hl]
  have p24 : (packL x).getD 24 0 = x.pe := by simp [packL, List.getD_eq_getElem?_getD, hl]
  have p25 : (packL x).getD 25 0 = x.ma := by simp [packL, List.getD_eq_getElem?_getD, hl]
  have r1 := Lib.hid hr
  have hz := zero_val
  have HZL := Lib.hid zero_ok.len
  have f1 : flagN x.op ≤ 1 := by unfold flagN; split <;> omega
  have d22 : decide ((1 : Int) < ((flagN x.op : Nat) : Int)) = false := decide_eq_false (by omega)
  have d23 : decide ((2 : Int) < (x.st : Int)) = false := decide_eq_false (by omega)
  have d24 : decide ((256 : Int) ≤ (x.pe : Int)) = false := decide_eq_false (by omega)
  have d25 : decide ((256 : Int) ≤ (x.ma : Int)) = false := decide_eq_false (by omega)
  have fe : (((flagN x.op : Nat) : Int) == 1) = x.op := by unfold flagN; cases x.op <;> rfl
  have w23 : IntKind.u8.wrap (x.st : Int) = (x.st : Int) := wrap_lt (k := .u8) rfl (by show x.st < 2 ^ 8; omega)
  have w24 : IntKind.u32.wrap (x.pe : Int) = (x.pe : Int) := wrap_lt (k := .u32) rfl (by show x.pe < 2 ^ 32; omega)
  have w25 : IntKind.u32.wrap (x.ma : Int) = (x.ma : Int) := wrap_lt (k := .u32) rfl (by show x.ma < 2 ^ 32; omega)
  have CC : Hid (∀ wx, Below w.heap.size w wx → wx.cell? (ad.add 16) = some (.int .u64 ((x.r.getD 16 0 : Nat) : Int)) ∧ wx.cell? (ad.add 17) = some (.int .u64 ((x.r.getD 17 0 : Nat) : Int)) ∧ wx.cell? (ad.add 18) = some (.int .u64 ((x.r.getD 18 0 : Nat) : Int)) ∧ wx.cell? (ad.add 19) = some (.int .u64 ((x.r.getD 19 0 : Nat) : Int)) ∧ wx.cell? (ad.add 20) = some (.int .u64 ((x.r.getD 20 0 : Nat) : Int)) ∧ wx.cell? (ad.add 21) = some (.int .u64 ((x.r.getD 21 0 : Nat) : Int)) ∧ wx.cell? (ad.add 22) = some (.int .u64 ((flagN x.op : Nat) : Int)) ∧ wx.cell? (ad.add 23) = some (.int .u64 (x.st : Int)) ∧ wx.cell? (ad.add 24) = some (.int .u64 (x.pe : Int)) ∧ wx.cell? (ad.add 25) = some (.int .u64 (x.ma : Int))) := fun wx hb => by
    have q := fun k hk => hr k hk wx hb
    refine ⟨?_, ?_, ?_, ?_, ?_, ?_, ?_, ?_, ?_, ?_⟩
    · rw [q 16 (by omega), pg 16 (by omega)]
    · rw [q 17 (by omega), pg 17 (by omega)]
    · rw [q 18 (by omega), pg 18 (by omega)]
    · rw [q 19 (by omega), pg 19 (by omega)]
    · rw [q 20 (by omega), pg 20 (by omega)]
    · rw [q 21 (by omega), pg 21 (by omega)]
    · rw [q 22 (by omega), p22]
    · rw [q 23 (by omega), p23]
    · rw [q 24 (by omega), p24]
    · rw [q 25 (by omega), p25]
  have HS : Hid (∀ wx, Below w.heap.size w wx → ∀ j v, ((x.r.take 16).map enc64)[j]? = some v → wx.cell? (ad.add j) = some v) := fun wx hb j v hv => by
    rw [List.getElem?_map] at hv
    obtain ⟨y, hy, rfl⟩ := Option.map_eq_some_iff.1 hv
    have hj : j < 16 := by
      have := (List.getElem?_eq_some_iff.1 hy).1
      rw [List.length_take] at this
      omega
    rw [List.getElem?_take, if_pos hj] at hy
    rw [hr j (by omega) wx hb, pg j (by omega), List.getD_eq_getElem?_getD, hy]
    rfl
  have HL16 : Hid (((x.r.take 16).map enc64).length = 16) := by show _ = _; rw [List.length_map, List.length_take, hl]; rfl
  have HO16 := Lib.hid (one_enc64 (x.r.take 16))
  have HD := Lib.hid (fun (a0 a1 a2 a3 a4 a5 a6 a7 a8 a9 : Value) => show ((((((((((zeroSe.cells.set 16 a0).set 17 a1).set 18 a2).set 19 a3).set 20 a4).set 21 a5).set 22 a6).set 23 a7).set 24 a8).set 25 a9).drop 16 = [a0, a1, a2, a3, a4, a5, a6, a7, a8, a9] from rfl)
  have EX : Hid ((x.r.take 16).map enc64 ++ [.int .u64 ((x.r.getD 16 0 : Nat) : Int), .int .u64 ((x.r.getD 17 0 : Nat) : Int), .int .u64 ((x.r.getD 18 0 : Nat) : Int), .int .u64 ((x.r.getD 19 0 : Nat) : Int), .int .u64 ((x.r.getD 20 0 : Nat) : Int), .int .u64 ((x.r.getD 21 0 : Nat) : Int), .bool x.op, .int .u8 (x.st : Int), .int .u32 (x.pe : Int), .int .u32 (x.ma : Int)] = x.cells) := by
    have h6 : (x.r.drop 16).length = 6 := by rw [List.length_drop, hl]
    have hd : ∀ i, i < 6 → x.r.getD (16 + i) 0 = (x.r.drop 16).getD i 0 := by
      intro i hi
      rw [List.getD_eq_getElem?_getD, List.getD_eq_getElem?_getD, List.getElem?_drop]
    show _ = x.cells
    rw [Se.cells]
    conv => rhs; rw [← List.take_append_drop 16 x.r]
    rw [hd 0 (by omega), hd 1 (by omega), hd 2 (by omega), hd 3 (by omega), hd 4 (by omega), hd 5 (by omega)]
    match x.r.drop 16, h6 with
    | [a1, a2, a3, a4, a5, a6], _ => simp [enc64]
  have IX := Lib.hid (info_se h)
  have LX := Lib.hid h.len
  have OX := Lib.hid (Se.one x)
  clear hr pg p22 p23 p24 p25 f1 hs hp hm hl
  generalize ((x.r.getD 16 0 : Nat) : Int) = v16 at *
  generalize ((x.r.getD 17 0 : Nat) : Int) = v17 at *
  generalize ((x.r.getD 18 0 : Nat) : Int) = v18 at *
  generalize ((x.r.getD 19 0 : Nat) : Int) = v19 at *
  generalize ((x.r.getD 20 0 : Nat) : Int) = v20 at *
  generalize ((x.r.getD 21 0 : Nat) : Int) = v21 at *
  generalize ((flagN x.op : Nat) : Int) = fl at *
  generalize (x.st : Int) = st at *
  generalize (x.pe : Int) = pe at *
  generalize (x.ma : Int) = ma at *
  have HO := Lib.hid (Se.one zeroSe)
  generalize zeroSe.cells = ZC at *
  have hzs : ZC.toArray.size = 26 := by simpa using HZL.out
  have hzn : ¬ ZC.toArray = #[] := fun h => by rw [h] at hzs; simp at hzs
  have R1 := Lib.hid (Own.newL (Below.refl _ w) ZC 26)
  go_enter Try.func16, Try.ntmps16
  go_upto_region 1 with (fail)
  generalize w.alloc (.cells ZC.toArray 26) = w1 at *
  obtain ⟨c16, c17, c18, c19, c20, c21, c22, c23, c24, c25⟩ := CC.out _ R1.out.bel
  simp [Addr.add] at c16 c17 c18 c19 c20 c21 c22 c23 c24 c25
  go_upto_region 3 with (fail)
  clear d22 d23 d24 d25
  have lg := Lib.hid (World.block_lt_of_cell? w1 _ c16)
  have T3 : Hid (Own w w1.heap.size ZC 26 (w1.alloc (.cells ZC.toArray 26)).drew) := (Own.newL R1.out.bel ZC 26).drewN 1
  have R3 : Hid (Own w w.heap.size ZC 26 (w1.alloc (.cells ZC.toArray 26)).drew) := (R1.out.alloc (.cells ZC.toArray 26)).drewN 1
  have NE := Lib.hid (show w1.heap.size ≠ w.heap.size from Nat.ne_of_gt R1.out.lt)
  have OB : Hid (∀ v ∈ ((((((((((ZC.set 16 (.int .u64 v16)).set 17 (.int .u64 v17)).set 18 (.int .u64 v18)).set 19 (.int .u64 v19)).set 20 (.int .u64 v20)).set 21 (.int .u64 v21)).set 22 (.bool x.op)).set 23 (.int .u8 st)).set 24 (.int .u32 pe)).set 25 (.int .u32 ma)), v.oneCell' = true) := set_one (set_one (set_one (set_one (set_one (set_one (set_one (set_one (set_one (set_one HO.out rfl) rfl) rfl) rfl) rfl) rfl) rfl) rfl) rfl) rfl
  have hst := T3.out.store (P := Try.prog) ((((((((((ZC.set 16 (.int .u64 v16)).set 17 (.int .u64 v17)).set 18 (.int .u64 v18)).set 19 (.int .u64 v19)).set 20 (.int .u64 v20)).set 21 (.int .u64 v21)).set 22 (.bool x.op)).set 23 (.int .u8 st)).set 24 (.int .u32 pe)).set 25 (.int .u32 ma)) (by simp) OB.out
  have T4 := Lib.hid (T3.out.setAll ((((((((((ZC.set 16 (.int .u64 v16)).set 17 (.int .u64 v17)).set 18 (.int .u64 v18)).set 19 (.int .u64 v19)).set 20 (.int .u64 v20)).set 21 (.int .u64 v21)).set 22 (.bool x.op)).set 23 (.int .u8 st)).set 24 (.int .u32 pe)).set 25 (.int .u32 ma)) (by simp))
  have R4 := Lib.hid (R3.out.setAllO NE.out T3.out.n 0 ((((((((((ZC.set 16 (.int .u64 v16)).set 17 (.int .u64 v17)).set 18 (.int .u64 v18)).set 19 (.int .u64 v19)).set 20 (.int .u64 v20)).set 21 (.int .u64 v21)).set 22 (.bool x.op)).set 23 (.int .u8 st)).set 24 (.int .u32 pe)).set 25 (.int .u32 ma)))
  have Q4 := CC.out _ T4.out.bel
  simp [Addr.add] at Q4
  have HQ := Lib.hid Q4
  clear Q4
  go_region_held3 (fun w' => w'.cell? ⟨ad.block, ad.off + 16, none⟩ = some (.int .u64 v16) ∧ w'.cell? ⟨ad.block, ad.off + 17, none⟩ = some (.int .u64 v17) ∧ w'.cell? ⟨ad.block, ad.off + 18, none⟩ = some (.int .u64 v18) ∧ w'.cell? ⟨ad.block, ad.off + 19, none⟩ = some (.int .u64 v19) ∧ w'.cell? ⟨ad.block, ad.off + 20, none⟩ = some (.int .u64 v20) ∧ w'.cell? ⟨ad.block, ad.off + 21, none⟩ = some (.int .u64 v21) ∧ w'.cell? ⟨ad.block, ad.off + 22, none⟩ = some (.int .u64 fl) ∧ w'.cell? ⟨ad.block, ad.off + 23, none⟩ = some (.int .u64 st) ∧ w'.cell? ⟨ad.block, ad.off + 24, none⟩ = some (.int .u64 pe) ∧ w'.cell? ⟨ad.block, ad.off + 25, none⟩ = some (.int .u64 ma))
    (first | exact HQ.out | go_keep)
    (fail)
  generalize World.setCells _ _ _ _ = w4 at *
  have T5 := Lib.hid (T4.out.setHead ((x.r.take 16).map enc64) (by rw [HL16.out]; simp [HZL.out]))
  have R5 := Lib.hid (R4.out.setAllO NE.out T4.out.n 0 ((x.r.take 16).map enc64))
  rw [HL16.out, HD.out, EX.out] at T5
  have SRC := Lib.hid (HS.out _ T4.out.bel)
  have TH := Lib.hid (T4.out.there (n := 16) (by simp [HZL.out]))
  generalize (x.r.take 16).map enc64 = CS at *
  generalize hXC : x.cells = XC at *
  have HXC := Lib.hid hXC
  clear hXC
  go_upto_region 5 with (refine wpList_copy_any (by rfl) _ _ _ _ (by rfl) 22 Try.underlying34 (by kernel_rfl) w1.heap.size 0 16 16 ad 26 cp (by rfl) (by rfl) CS (by rw [HL16.out]; rfl) SRC.out (fun j hj => (TH.out j (by rw [HL16.out] at hj; omega)).1) (fun j hj => (TH.out j (by rw [HL16.out] at hj; omega)).2) HO16.out ?_)
  generalize World.setCells _ _ _ _ = w5 at *
  go_wp2_with (first | refine wpList_load_mid rfl 26 (.tmp 4) rfl w1.heap.size 0 rfl XC _ T5.out.all Try.underlying26 rfl IX.out ?_ | refine wpList_store_mid rfl 26 (.tmp 2) (.tmp 72) rfl w.heap.size 0 XC.toArray rfl rfl (R5.out.there ?s1) ?s2 ?s3 ?_)
  case s1 => have h1 := HZL.out; have h2 := LX.out; simp; omega
  case s2 => simpa using IX.out
  case s3 => first | exact OX.out | exact all_oneCell_toArray OX.out
  have R6 := Lib.hid (R5.out.setAll XC (by rw [HZL.out, LX.out]))
  refine bodyPost_ret (v := .tuple #[.agg XC.toArray, .bool true]) (results_ct Try.results16 _ _ w.heap.size XC _ rfl R6.out.all Try.underlying26 rfl IX.out) rfl ⟨by rw [HXC.out], R6.out.bel⟩
end Go.Proofs.Ythgccppclkkohaa.Walks
