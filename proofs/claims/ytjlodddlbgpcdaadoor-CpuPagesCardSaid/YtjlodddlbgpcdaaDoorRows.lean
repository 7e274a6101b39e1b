/-
  NARROWER THAN 'FOR EVERY INPUT', by the rows' own cells (each row's printed sentence says how): CpuOne: laid · CpuRaw: laid · CpuRuns: laid · CpuPages: laid · CpuIdle: laid · CpuSums: laid · CpuTraps: laid.
  DERIVED. THE GIVEN ROWS OF THIS SEAT. 7 by the template 'for every input the law returns true; each argument reads behind the call as it read before'; 0 by the template 'total and deterministic' (their statements: YtjlodddlbgpcdaaDoorTotals.lean).
  GIVEN WITH THE SEED: the statements are not yours to turn. If you find one false, say at which input.
  Laid BY PROGRAM, IN A SANDBOX (cutbox-rows.mjs): the forced cells as the released guide's own fill.sh prints them over the translation 04b8fe1cd6254f17… (all of the seat's roots in one cut). By AI agents, Wed Nov 11 2026. No macro, syntax, notation, axiom, sorry.
-/
import Derived.Test.YtjlodddlbgpcdaaDoorChecked
import GoSem.Claim
import GoSem.ClaimJoined
import GoSem.ClaimMapViews
import Derived.JoinedTies
import Derived.KernelRfl
namespace Go.Proofs.YtjlodddlbgpcdaaDoor
/- THE CELL 'sum', in the pinned program and in every row, IS THE sha256 OF THE DUMP (.gsa) THAT YtjlodddlbgpcdaaDoorProg.lean LOADS. Nothing in Lean hashes anything: it is a label: what it is worth is what the hold of that sum in a sandbox is worth. -/
noncomputable def Tryd.pinned : Pinned := { name := "ytjlodddlbgpcdaadoor", sum := "04b8fe1cd6254f17727ad742e70048c099597acc1ebf4d4d3ed8581d9c6c33ac", checked := Tryd.checked }
namespace Rows
def none {H : Type} : Left H := { results := [], args := [] }

/- WHAT THE LISTED PACKAGE-LEVEL VARIABLES READ AS WHEN THE CALL BEGINS. Each datum BY PROGRAM (the guide's laid-datum.mjs) off the statement by which the dump's own 'gosem.cut.vars' lays the variable. In a bare row this is a premise. The card (YtjlodddlbgpcdaaDoorCards.lean) ties it to the program's text. -/
def laid_math_bits_deBruijn64tab {H : Type} : DataW H := .agg [.lit (.int .u8 0), .lit (.int .u8 1), .lit (.int .u8 56), .lit (.int .u8 2), .lit (.int .u8 57), .lit (.int .u8 49), .lit (.int .u8 28), .lit (.int .u8 3), .lit (.int .u8 61), .lit (.int .u8 58), .lit (.int .u8 42), .lit (.int .u8 50), .lit (.int .u8 38), .lit (.int .u8 29), .lit (.int .u8 17), .lit (.int .u8 4), .lit (.int .u8 62), .lit (.int .u8 47), .lit (.int .u8 59), .lit (.int .u8 36), .lit (.int .u8 45), .lit (.int .u8 43), .lit (.int .u8 51), .lit (.int .u8 22), .lit (.int .u8 53), .lit (.int .u8 39), .lit (.int .u8 33), .lit (.int .u8 30), .lit (.int .u8 24), .lit (.int .u8 18), .lit (.int .u8 12), .lit (.int .u8 5), .lit (.int .u8 63), .lit (.int .u8 55), .lit (.int .u8 48), .lit (.int .u8 27), .lit (.int .u8 60), .lit (.int .u8 41), .lit (.int .u8 37), .lit (.int .u8 16), .lit (.int .u8 46), .lit (.int .u8 35), .lit (.int .u8 44), .lit (.int .u8 21), .lit (.int .u8 52), .lit (.int .u8 32), .lit (.int .u8 23), .lit (.int .u8 11), .lit (.int .u8 54), .lit (.int .u8 26), .lit (.int .u8 40), .lit (.int .u8 15), .lit (.int .u8 34), .lit (.int .u8 20), .lit (.int .u8 31), .lit (.int .u8 10), .lit (.int .u8 25), .lit (.int .u8 14), .lit (.int .u8 19), .lit (.int .u8 9), .lit (.int .u8 13), .lit (.int .u8 8), .lit (.int .u8 7), .lit (.int .u8 6)]

/-- 'hermitcrablaw12.CpuOne': WHATEVER THE INPUT: true; the input reads as it did. -/
def cpuOneSpec : ChangeSpec := { name := "cpuOne", fn := fun _ => fun
  | [d1, d2, d3, d4, d5, d6, d7, d8, d9, d10, d11, d12] => { results := [.lit (.bool true)], args := [d1, d2, d3, d4, d5, d6, d7, d8, d9, d10, d11, d12] }
  | _ => none }
def cpuOneRow : OpenClaim := { program := "ytjlodddlbgpcdaadoor", sum := "04b8fe1cd6254f17727ad742e70048c099597acc1ebf4d4d3ed8581d9c6c33ac", func := "hermitcrab/hermitcrablaw12.CpuOne", spec := "cpuOne", unfollowed := true, recurses := true, named := ["math/bits.deBruijn64tab"], apart := false, laid := [("math/bits.deBruijn64tab", laid_math_bits_deBruijn64tab)] }
def CpuOneSaid : Prop := cpuOneRow.holds Tryd.pinned (OpenSpec.ofChange cpuOneSpec)

/-- ITS FALSE NEIGHBOUR: 'it returns false'. Refute it at one input. -/
def cpuOneWrong : ChangeSpec := { name := "cpuOne", fn := fun _ => fun
  | [d1, d2, d3, d4, d5, d6, d7, d8, d9, d10, d11, d12] => { results := [.lit (.bool false)], args := [d1, d2, d3, d4, d5, d6, d7, d8, d9, d10, d11, d12] }
  | _ => none }
def CpuOneWrongFalsely : Prop := cpuOneRow.holds Tryd.pinned (OpenSpec.ofChange cpuOneWrong)

/-- 'hermitcrablaw12.CpuRaw': WHATEVER THE INPUT: true; the input reads as it did. -/
def cpuRawSpec : ChangeSpec := { name := "cpuRaw", fn := fun _ => fun
  | [d1, d2, d3, d4, d5] => { results := [.lit (.bool true)], args := [d1, d2, d3, d4, d5] }
  | _ => none }
def cpuRawRow : OpenClaim := { program := "ytjlodddlbgpcdaadoor", sum := "04b8fe1cd6254f17727ad742e70048c099597acc1ebf4d4d3ed8581d9c6c33ac", func := "hermitcrab/hermitcrablaw12.CpuRaw", spec := "cpuRaw", unfollowed := true, recurses := true, named := ["math/bits.deBruijn64tab"], apart := false, laid := [("math/bits.deBruijn64tab", laid_math_bits_deBruijn64tab)] }
def CpuRawSaid : Prop := cpuRawRow.holds Tryd.pinned (OpenSpec.ofChange cpuRawSpec)

/-- ITS FALSE NEIGHBOUR: 'it returns false'. Refute it at one input. -/
def cpuRawWrong : ChangeSpec := { name := "cpuRaw", fn := fun _ => fun
  | [d1, d2, d3, d4, d5] => { results := [.lit (.bool false)], args := [d1, d2, d3, d4, d5] }
  | _ => none }
def CpuRawWrongFalsely : Prop := cpuRawRow.holds Tryd.pinned (OpenSpec.ofChange cpuRawWrong)

/-- 'hermitcrablaw12.CpuRuns': WHATEVER THE INPUT: true; the input reads as it did. -/
def cpuRunsSpec : ChangeSpec := { name := "cpuRuns", fn := fun _ => fun
  | [d1, d2, d3, d4, d5, d6, d7] => { results := [.lit (.bool true)], args := [d1, d2, d3, d4, d5, d6, d7] }
  | _ => none }
def cpuRunsRow : OpenClaim := { program := "ytjlodddlbgpcdaadoor", sum := "04b8fe1cd6254f17727ad742e70048c099597acc1ebf4d4d3ed8581d9c6c33ac", func := "hermitcrab/hermitcrablaw12.CpuRuns", spec := "cpuRuns", unfollowed := true, recurses := true, named := ["math/bits.deBruijn64tab"], apart := false, laid := [("math/bits.deBruijn64tab", laid_math_bits_deBruijn64tab)] }
def CpuRunsSaid : Prop := cpuRunsRow.holds Tryd.pinned (OpenSpec.ofChange cpuRunsSpec)

/-- ITS FALSE NEIGHBOUR: 'it returns false'. Refute it at one input. -/
def cpuRunsWrong : ChangeSpec := { name := "cpuRuns", fn := fun _ => fun
  | [d1, d2, d3, d4, d5, d6, d7] => { results := [.lit (.bool false)], args := [d1, d2, d3, d4, d5, d6, d7] }
  | _ => none }
def CpuRunsWrongFalsely : Prop := cpuRunsRow.holds Tryd.pinned (OpenSpec.ofChange cpuRunsWrong)

/-- 'hermitcrablaw12.CpuPages': WHATEVER THE INPUT: true; the input reads as it did. -/
def cpuPagesSpec : ChangeSpec := { name := "cpuPages", fn := fun _ => fun
  | [d1, d2, d3, d4, d5, d6] => { results := [.lit (.bool true)], args := [d1, d2, d3, d4, d5, d6] }
  | _ => none }
def cpuPagesRow : OpenClaim := { program := "ytjlodddlbgpcdaadoor", sum := "04b8fe1cd6254f17727ad742e70048c099597acc1ebf4d4d3ed8581d9c6c33ac", func := "hermitcrab/hermitcrablaw12.CpuPages", spec := "cpuPages", unfollowed := true, recurses := true, named := ["math/bits.deBruijn64tab"], apart := false, laid := [("math/bits.deBruijn64tab", laid_math_bits_deBruijn64tab)] }
def CpuPagesSaid : Prop := cpuPagesRow.holds Tryd.pinned (OpenSpec.ofChange cpuPagesSpec)

/-- ITS FALSE NEIGHBOUR: 'it returns false'. Refute it at one input. -/
def cpuPagesWrong : ChangeSpec := { name := "cpuPages", fn := fun _ => fun
  | [d1, d2, d3, d4, d5, d6] => { results := [.lit (.bool false)], args := [d1, d2, d3, d4, d5, d6] }
  | _ => none }
def CpuPagesWrongFalsely : Prop := cpuPagesRow.holds Tryd.pinned (OpenSpec.ofChange cpuPagesWrong)

/-- 'hermitcrablaw12.CpuIdle': WHATEVER THE INPUT: true; the input reads as it did. -/
def cpuIdleSpec : ChangeSpec := { name := "cpuIdle", fn := fun _ => fun
  | [d1, d2, d3] => { results := [.lit (.bool true)], args := [d1, d2, d3] }
  | _ => none }
def cpuIdleRow : OpenClaim := { program := "ytjlodddlbgpcdaadoor", sum := "04b8fe1cd6254f17727ad742e70048c099597acc1ebf4d4d3ed8581d9c6c33ac", func := "hermitcrab/hermitcrablaw12.CpuIdle", spec := "cpuIdle", unfollowed := true, recurses := true, named := ["math/bits.deBruijn64tab"], apart := false, laid := [("math/bits.deBruijn64tab", laid_math_bits_deBruijn64tab)] }
def CpuIdleSaid : Prop := cpuIdleRow.holds Tryd.pinned (OpenSpec.ofChange cpuIdleSpec)

/-- ITS FALSE NEIGHBOUR: 'it returns false'. Refute it at one input. -/
def cpuIdleWrong : ChangeSpec := { name := "cpuIdle", fn := fun _ => fun
  | [d1, d2, d3] => { results := [.lit (.bool false)], args := [d1, d2, d3] }
  | _ => none }
def CpuIdleWrongFalsely : Prop := cpuIdleRow.holds Tryd.pinned (OpenSpec.ofChange cpuIdleWrong)

/-- 'hermitcrablaw12.CpuSums': WHATEVER THE INPUT: true; the input reads as it did. -/
def cpuSumsSpec : ChangeSpec := { name := "cpuSums", fn := fun _ => fun
  | [d1, d2] => { results := [.lit (.bool true)], args := [d1, d2] }
  | _ => none }
def cpuSumsRow : OpenClaim := { program := "ytjlodddlbgpcdaadoor", sum := "04b8fe1cd6254f17727ad742e70048c099597acc1ebf4d4d3ed8581d9c6c33ac", func := "hermitcrab/hermitcrablaw12.CpuSums", spec := "cpuSums", unfollowed := true, recurses := true, named := ["math/bits.deBruijn64tab"], apart := false, laid := [("math/bits.deBruijn64tab", laid_math_bits_deBruijn64tab)] }
def CpuSumsSaid : Prop := cpuSumsRow.holds Tryd.pinned (OpenSpec.ofChange cpuSumsSpec)

/-- ITS FALSE NEIGHBOUR: 'it returns false'. Refute it at one input. -/
def cpuSumsWrong : ChangeSpec := { name := "cpuSums", fn := fun _ => fun
  | [d1, d2] => { results := [.lit (.bool false)], args := [d1, d2] }
  | _ => none }
def CpuSumsWrongFalsely : Prop := cpuSumsRow.holds Tryd.pinned (OpenSpec.ofChange cpuSumsWrong)

/-- 'hermitcrablaw12.CpuTraps': WHATEVER THE INPUT: true; the input reads as it did. -/
def cpuTrapsSpec : ChangeSpec := { name := "cpuTraps", fn := fun _ => fun
  | [d1, d2, d3] => { results := [.lit (.bool true)], args := [d1, d2, d3] }
  | _ => none }
def cpuTrapsRow : OpenClaim := { program := "ytjlodddlbgpcdaadoor", sum := "04b8fe1cd6254f17727ad742e70048c099597acc1ebf4d4d3ed8581d9c6c33ac", func := "hermitcrab/hermitcrablaw12.CpuTraps", spec := "cpuTraps", unfollowed := true, recurses := true, named := ["math/bits.deBruijn64tab"], apart := false, laid := [("math/bits.deBruijn64tab", laid_math_bits_deBruijn64tab)] }
def CpuTrapsSaid : Prop := cpuTrapsRow.holds Tryd.pinned (OpenSpec.ofChange cpuTrapsSpec)

/-- ITS FALSE NEIGHBOUR: 'it returns false'. Refute it at one input. -/
def cpuTrapsWrong : ChangeSpec := { name := "cpuTraps", fn := fun _ => fun
  | [d1, d2, d3] => { results := [.lit (.bool false)], args := [d1, d2, d3] }
  | _ => none }
def CpuTrapsWrongFalsely : Prop := cpuTrapsRow.holds Tryd.pinned (OpenSpec.ofChange cpuTrapsWrong)

/- THE SECOND FORM. 'bulk': how many values and letters a reading holds, each counted each time it is reached (what is shared counts as often as it is met; a slice's spare places count too). A statement '..UptoSaid' is the law's where the arguments, and the package variables that the reading takes, are together of bulk at most 1048576: NARROWER than '..Said'. Prove '..Said' where nothing that the law and all that it calls make is longer than what came in: it says more and counts as full. Else prove '..UptoSaid'. A law counts once. -/
mutual
def uptoBulk {H : Type} : DataW H → Nat
  | .lit (.string bytes) => bytes.length + 1
  | .lit _ => 1
  | .nil => 1
  | .ptr d => uptoBulk d + 1
  | .slice elems spare => uptoBulkAll elems + uptoBulkAll spare + 1
  | .agg parts => uptoBulkAll parts + 1
  | .iface _ d => uptoBulk d + 1
  | .map entries => uptoBulkEntries entries + 1
  | .held _ => 1
def uptoBulkAll {H : Type} : List (DataW H) → Nat
  | [] => 0
  | d :: r => uptoBulk d + uptoBulkAll r
def uptoBulkEntries {H : Type} : List (Lit × DataW H) → Nat
  | [] => 0
  | x :: r => uptoBulkEntry x + uptoBulkEntries r
def uptoBulkEntry {H : Type} : Lit × DataW H → Nat
  | (.string bytes, d) => bytes.length + uptoBulk d + 1
  | (_, d) => uptoBulk d + 1
 end
def uptoSmall : (H : Type) → List (DataW H) → Bool := fun _ ds => decide (uptoBulkAll ds ≤ 1048576)
def OpenSpec.upto (s : _root_.Go.ChangeSpec) : _root_.Go.OpenSpec := { _root_.Go.OpenSpec.ofChange s with cond := some uptoSmall }

/-- 'hermitcrablaw12.CpuOne', WHERE WHAT IT READS IS OF BULK AT MOST 1048576: true; the input reads as it did. -/
def cpuOneUptoRow : OpenClaim := { program := "ytjlodddlbgpcdaadoor", sum := "04b8fe1cd6254f17727ad742e70048c099597acc1ebf4d4d3ed8581d9c6c33ac", func := "hermitcrab/hermitcrablaw12.CpuOne", spec := "cpuOne", unfollowed := true, recurses := true, named := ["math/bits.deBruijn64tab"], apart := false, laid := [("math/bits.deBruijn64tab", laid_math_bits_deBruijn64tab)], narrowed := true }
def CpuOneUptoSaid : Prop := cpuOneUptoRow.holds Tryd.pinned (OpenSpec.upto cpuOneSpec)

/-- 'hermitcrablaw12.CpuRaw', WHERE WHAT IT READS IS OF BULK AT MOST 1048576: true; the input reads as it did. -/
def cpuRawUptoRow : OpenClaim := { program := "ytjlodddlbgpcdaadoor", sum := "04b8fe1cd6254f17727ad742e70048c099597acc1ebf4d4d3ed8581d9c6c33ac", func := "hermitcrab/hermitcrablaw12.CpuRaw", spec := "cpuRaw", unfollowed := true, recurses := true, named := ["math/bits.deBruijn64tab"], apart := false, laid := [("math/bits.deBruijn64tab", laid_math_bits_deBruijn64tab)], narrowed := true }
def CpuRawUptoSaid : Prop := cpuRawUptoRow.holds Tryd.pinned (OpenSpec.upto cpuRawSpec)

/-- 'hermitcrablaw12.CpuRuns', WHERE WHAT IT READS IS OF BULK AT MOST 1048576: true; the input reads as it did. -/
def cpuRunsUptoRow : OpenClaim := { program := "ytjlodddlbgpcdaadoor", sum := "04b8fe1cd6254f17727ad742e70048c099597acc1ebf4d4d3ed8581d9c6c33ac", func := "hermitcrab/hermitcrablaw12.CpuRuns", spec := "cpuRuns", unfollowed := true, recurses := true, named := ["math/bits.deBruijn64tab"], apart := false, laid := [("math/bits.deBruijn64tab", laid_math_bits_deBruijn64tab)], narrowed := true }
def CpuRunsUptoSaid : Prop := cpuRunsUptoRow.holds Tryd.pinned (OpenSpec.upto cpuRunsSpec)

/-- 'hermitcrablaw12.CpuPages', WHERE WHAT IT READS IS OF BULK AT MOST 1048576: true; the input reads as it did. -/
def cpuPagesUptoRow : OpenClaim := { program := "ytjlodddlbgpcdaadoor", sum := "04b8fe1cd6254f17727ad742e70048c099597acc1ebf4d4d3ed8581d9c6c33ac", func := "hermitcrab/hermitcrablaw12.CpuPages", spec := "cpuPages", unfollowed := true, recurses := true, named := ["math/bits.deBruijn64tab"], apart := false, laid := [("math/bits.deBruijn64tab", laid_math_bits_deBruijn64tab)], narrowed := true }
def CpuPagesUptoSaid : Prop := cpuPagesUptoRow.holds Tryd.pinned (OpenSpec.upto cpuPagesSpec)

/-- 'hermitcrablaw12.CpuIdle', WHERE WHAT IT READS IS OF BULK AT MOST 1048576: true; the input reads as it did. -/
def cpuIdleUptoRow : OpenClaim := { program := "ytjlodddlbgpcdaadoor", sum := "04b8fe1cd6254f17727ad742e70048c099597acc1ebf4d4d3ed8581d9c6c33ac", func := "hermitcrab/hermitcrablaw12.CpuIdle", spec := "cpuIdle", unfollowed := true, recurses := true, named := ["math/bits.deBruijn64tab"], apart := false, laid := [("math/bits.deBruijn64tab", laid_math_bits_deBruijn64tab)], narrowed := true }
def CpuIdleUptoSaid : Prop := cpuIdleUptoRow.holds Tryd.pinned (OpenSpec.upto cpuIdleSpec)

/-- 'hermitcrablaw12.CpuSums', WHERE WHAT IT READS IS OF BULK AT MOST 1048576: true; the input reads as it did. -/
def cpuSumsUptoRow : OpenClaim := { program := "ytjlodddlbgpcdaadoor", sum := "04b8fe1cd6254f17727ad742e70048c099597acc1ebf4d4d3ed8581d9c6c33ac", func := "hermitcrab/hermitcrablaw12.CpuSums", spec := "cpuSums", unfollowed := true, recurses := true, named := ["math/bits.deBruijn64tab"], apart := false, laid := [("math/bits.deBruijn64tab", laid_math_bits_deBruijn64tab)], narrowed := true }
def CpuSumsUptoSaid : Prop := cpuSumsUptoRow.holds Tryd.pinned (OpenSpec.upto cpuSumsSpec)

/-- 'hermitcrablaw12.CpuTraps', WHERE WHAT IT READS IS OF BULK AT MOST 1048576: true; the input reads as it did. -/
def cpuTrapsUptoRow : OpenClaim := { program := "ytjlodddlbgpcdaadoor", sum := "04b8fe1cd6254f17727ad742e70048c099597acc1ebf4d4d3ed8581d9c6c33ac", func := "hermitcrab/hermitcrablaw12.CpuTraps", spec := "cpuTraps", unfollowed := true, recurses := true, named := ["math/bits.deBruijn64tab"], apart := false, laid := [("math/bits.deBruijn64tab", laid_math_bits_deBruijn64tab)], narrowed := true }
def CpuTrapsUptoSaid : Prop := cpuTrapsUptoRow.holds Tryd.pinned (OpenSpec.upto cpuTrapsSpec)

end Rows
end Go.Proofs.YtjlodddlbgpcdaaDoor
