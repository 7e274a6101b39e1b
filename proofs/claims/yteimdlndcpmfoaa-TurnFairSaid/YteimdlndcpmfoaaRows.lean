/-
  No cell of these rows narrows 'for every input' (looked for: loops, veiled, ifaces, maps, wideKeys, modest, calm, conditions, laid).
  DERIVED. THE GIVEN ROWS OF THIS SEAT. 4 by the template 'for every input the law returns true; each argument reads behind the call as it read before'; 0 by the template 'total and deterministic' (their statements: YteimdlndcpmfoaaTotals.lean).
  GIVEN WITH THE SEED: the statements are not yours to turn. If you find one false, say at which input.
  Laid BY PROGRAM, IN A SANDBOX (cutbox-rows.mjs): the forced cells as the released guide's own fill.sh prints them over the translation 40ca634ca67f7ed3… (all of the seat's roots in one cut). By AI agents, Wed Nov 11 2026. No macro, syntax, notation, axiom, sorry.
-/
import Derived.Test.YteimdlndcpmfoaaChecked
import GoSem.Claim
import GoSem.ClaimJoined
import GoSem.ClaimMapViews
import Derived.JoinedTies
import Derived.KernelRfl
namespace Go.Proofs.Yteimdlndcpmfoaa
/- THE CELL 'sum', in the pinned program and in every row, IS THE sha256 OF THE DUMP (.gsa) THAT YteimdlndcpmfoaaProg.lean LOADS. Nothing in Lean hashes anything: it is a label: what it is worth is what the hold of that sum in a sandbox is worth. -/
noncomputable def Try.pinned : Pinned := { name := "yteimdlndcpmfoaa", sum := "40ca634ca67f7ed3126e00edd62fcbce93af8ed451400bfc1f47e0d8821e426d", checked := Try.checked }
namespace Rows
def none {H : Type} : Left H := { results := [], args := [] }

/-- 'hermitcrablaw13.TurnPicks': WHATEVER THE INPUT: true; the input reads as it did. -/
def turnPicksSpec : ChangeSpec := { name := "turnPicks", fn := fun _ => fun
  | [d1, d2] => { results := [.lit (.bool true)], args := [d1, d2] }
  | _ => none }
def turnPicksRow : OpenClaim := { program := "yteimdlndcpmfoaa", sum := "40ca634ca67f7ed3126e00edd62fcbce93af8ed451400bfc1f47e0d8821e426d", func := "hermitcrab/hermitcrablaw13.TurnPicks", spec := "turnPicks", recurses := true, apart := false }
def TurnPicksSaid : Prop := turnPicksRow.holds Try.pinned (OpenSpec.ofChange turnPicksSpec)

/-- ITS FALSE NEIGHBOUR: 'it returns false'. Refute it at one input. -/
def turnPicksWrong : ChangeSpec := { name := "turnPicks", fn := fun _ => fun
  | [d1, d2] => { results := [.lit (.bool false)], args := [d1, d2] }
  | _ => none }
def TurnPicksWrongFalsely : Prop := turnPicksRow.holds Try.pinned (OpenSpec.ofChange turnPicksWrong)

/-- 'hermitcrablaw13.TurnFair': WHATEVER THE INPUT: true; the input reads as it did. -/
def turnFairSpec : ChangeSpec := { name := "turnFair", fn := fun _ => fun
  | [d1, d2, d3] => { results := [.lit (.bool true)], args := [d1, d2, d3] }
  | _ => none }
def turnFairRow : OpenClaim := { program := "yteimdlndcpmfoaa", sum := "40ca634ca67f7ed3126e00edd62fcbce93af8ed451400bfc1f47e0d8821e426d", func := "hermitcrab/hermitcrablaw13.TurnFair", spec := "turnFair", recurses := true, apart := false }
def TurnFairSaid : Prop := turnFairRow.holds Try.pinned (OpenSpec.ofChange turnFairSpec)

/-- ITS FALSE NEIGHBOUR: 'it returns false'. Refute it at one input. -/
def turnFairWrong : ChangeSpec := { name := "turnFair", fn := fun _ => fun
  | [d1, d2, d3] => { results := [.lit (.bool false)], args := [d1, d2, d3] }
  | _ => none }
def TurnFairWrongFalsely : Prop := turnFairRow.holds Try.pinned (OpenSpec.ofChange turnFairWrong)

/-- 'hermitcrablaw13.TurnEven': WHATEVER THE INPUT: true; the input reads as it did. -/
def turnEvenSpec : ChangeSpec := { name := "turnEven", fn := fun _ => fun
  | [d1, d2] => { results := [.lit (.bool true)], args := [d1, d2] }
  | _ => none }
def turnEvenRow : OpenClaim := { program := "yteimdlndcpmfoaa", sum := "40ca634ca67f7ed3126e00edd62fcbce93af8ed451400bfc1f47e0d8821e426d", func := "hermitcrab/hermitcrablaw13.TurnEven", spec := "turnEven", recurses := true, apart := false }
def TurnEvenSaid : Prop := turnEvenRow.holds Try.pinned (OpenSpec.ofChange turnEvenSpec)

/-- ITS FALSE NEIGHBOUR: 'it returns false'. Refute it at one input. -/
def turnEvenWrong : ChangeSpec := { name := "turnEven", fn := fun _ => fun
  | [d1, d2] => { results := [.lit (.bool false)], args := [d1, d2] }
  | _ => none }
def TurnEvenWrongFalsely : Prop := turnEvenRow.holds Try.pinned (OpenSpec.ofChange turnEvenWrong)

/-- 'hermitcrablaw13.TurnNumbers': WHATEVER THE INPUT: true; the input reads as it did. -/
def turnNumbersSpec : ChangeSpec := { name := "turnNumbers", fn := fun _ => fun
  | [d1, d2, d3] => { results := [.lit (.bool true)], args := [d1, d2, d3] }
  | _ => none }
def turnNumbersRow : OpenClaim := { program := "yteimdlndcpmfoaa", sum := "40ca634ca67f7ed3126e00edd62fcbce93af8ed451400bfc1f47e0d8821e426d", func := "hermitcrab/hermitcrablaw13.TurnNumbers", spec := "turnNumbers", recurses := true, apart := false }
def TurnNumbersSaid : Prop := turnNumbersRow.holds Try.pinned (OpenSpec.ofChange turnNumbersSpec)

/-- ITS FALSE NEIGHBOUR: 'it returns false'. Refute it at one input. -/
def turnNumbersWrong : ChangeSpec := { name := "turnNumbers", fn := fun _ => fun
  | [d1, d2, d3] => { results := [.lit (.bool false)], args := [d1, d2, d3] }
  | _ => none }
def TurnNumbersWrongFalsely : Prop := turnNumbersRow.holds Try.pinned (OpenSpec.ofChange turnNumbersWrong)

/- THE SECOND FORM. 'bulk': how many values and letters a reading holds, each counted each time it is reached (what is shared counts as often as it is met; a slice's spare places count too). A statement '..UptoSaid' is the law's where the arguments, and the package variables that the reading takes, are together of bulk at most 1048576: NARROWER than '..Said'. Prove '..Said' where nothing that the law and all that it calls make is longer than what came in: it says more and counts as full. Else prove '..UptoSaid'. A law counts once. -/
mutual
def uptoBulk {H : Type} : DataW H → Nat
  | .lit (.string bytes) => bytes.length + 1
  | .lit _ => 1
  | .nil => 1
  | .ptr d => uptoBulk d + 1
  | .slice elems spare => uptoBulkAll elems + uptoBulkAll spare + 1
  | .agg parts => uptoBulkAll parts + 1
  | .iface _ d => uptoBulk d + 1
  | .map entries => uptoBulkEntries entries + 1
  | .held _ => 1
def uptoBulkAll {H : Type} : List (DataW H) → Nat
  | [] => 0
  | d :: r => uptoBulk d + uptoBulkAll r
def uptoBulkEntries {H : Type} : List (Lit × DataW H) → Nat
  | [] => 0
  | x :: r => uptoBulkEntry x + uptoBulkEntries r
def uptoBulkEntry {H : Type} : Lit × DataW H → Nat
  | (.string bytes, d) => bytes.length + uptoBulk d + 1
  | (_, d) => uptoBulk d + 1
 end
def uptoSmall : (H : Type) → List (DataW H) → Bool := fun _ ds => decide (uptoBulkAll ds ≤ 1048576)
def OpenSpec.upto (s : _root_.Go.ChangeSpec) : _root_.Go.OpenSpec := { _root_.Go.OpenSpec.ofChange s with cond := some uptoSmall }

/-- 'hermitcrablaw13.TurnPicks', WHERE WHAT IT READS IS OF BULK AT MOST 1048576: true; the input reads as it did. -/
def turnPicksUptoRow : OpenClaim := { program := "yteimdlndcpmfoaa", sum := "40ca634ca67f7ed3126e00edd62fcbce93af8ed451400bfc1f47e0d8821e426d", func := "hermitcrab/hermitcrablaw13.TurnPicks", spec := "turnPicks", recurses := true, apart := false, narrowed := true }
def TurnPicksUptoSaid : Prop := turnPicksUptoRow.holds Try.pinned (OpenSpec.upto turnPicksSpec)

/-- 'hermitcrablaw13.TurnFair', WHERE WHAT IT READS IS OF BULK AT MOST 1048576: true; the input reads as it did. -/
def turnFairUptoRow : OpenClaim := { program := "yteimdlndcpmfoaa", sum := "40ca634ca67f7ed3126e00edd62fcbce93af8ed451400bfc1f47e0d8821e426d", func := "hermitcrab/hermitcrablaw13.TurnFair", spec := "turnFair", recurses := true, apart := false, narrowed := true }
def TurnFairUptoSaid : Prop := turnFairUptoRow.holds Try.pinned (OpenSpec.upto turnFairSpec)

/-- 'hermitcrablaw13.TurnEven', WHERE WHAT IT READS IS OF BULK AT MOST 1048576: true; the input reads as it did. -/
def turnEvenUptoRow : OpenClaim := { program := "yteimdlndcpmfoaa", sum := "40ca634ca67f7ed3126e00edd62fcbce93af8ed451400bfc1f47e0d8821e426d", func := "hermitcrab/hermitcrablaw13.TurnEven", spec := "turnEven", recurses := true, apart := false, narrowed := true }
def TurnEvenUptoSaid : Prop := turnEvenUptoRow.holds Try.pinned (OpenSpec.upto turnEvenSpec)

/-- 'hermitcrablaw13.TurnNumbers', WHERE WHAT IT READS IS OF BULK AT MOST 1048576: true; the input reads as it did. -/
def turnNumbersUptoRow : OpenClaim := { program := "yteimdlndcpmfoaa", sum := "40ca634ca67f7ed3126e00edd62fcbce93af8ed451400bfc1f47e0d8821e426d", func := "hermitcrab/hermitcrablaw13.TurnNumbers", spec := "turnNumbers", recurses := true, apart := false, narrowed := true }
def TurnNumbersUptoSaid : Prop := turnNumbersUptoRow.holds Try.pinned (OpenSpec.upto turnNumbersSpec)

end Rows
end Go.Proofs.Yteimdlndcpmfoaa
