/-
  No cell of these rows narrows 'for every input' (looked for: loops, veiled, ifaces, maps, wideKeys, modest, calm, conditions, laid).
  DERIVED. THE GIVEN ROWS OF THIS SEAT. 4 by the template 'for every input the law returns true; each argument reads behind the call as it read before'; 0 by the template 'total and deterministic' (their statements: YteenaokcfhlemaaTotals.lean).
  GIVEN WITH THE SEED: the statements are not yours to turn. If you find one false, say at which input.
  Laid BY PROGRAM, IN A SANDBOX (cutbox-rows.mjs): the forced cells as the released guide's own fill.sh prints them over the translation 2faaf4137bd2bd35… (all of the seat's roots in one cut). By AI agents, Wed Nov 11 2026. No macro, syntax, notation, axiom, sorry.
-/
import Derived.Test.YteenaokcfhlemaaChecked
import GoSem.Claim
import GoSem.ClaimJoined
import GoSem.ClaimMapViews
import Derived.JoinedTies
import Derived.KernelRfl
namespace Go.Proofs.Yteenaokcfhlemaa
/- THE CELL 'sum', in the pinned program and in every row, IS THE sha256 OF THE DUMP (.gsa) THAT YteenaokcfhlemaaProg.lean LOADS. Nothing in Lean hashes anything: it is a label: what it is worth is what the hold of that sum in a sandbox is worth. -/
noncomputable def Try.pinned : Pinned := { name := "yteenaokcfhlemaa", sum := "2faaf4137bd2bd358e4b7e6012f73a1531a38767a6e74b585e9376bf2d00b34c", checked := Try.checked }
namespace Rows
def none {H : Type} : Left H := { results := [], args := [] }

/-- 'hermitcrablaw06.TableEntries': WHATEVER THE INPUT: true; the input reads as it did. -/
def tableEntriesSpec : ChangeSpec := { name := "tableEntries", fn := fun _ => fun
  | [d1, d2, d3, d4, d5] => { results := [.lit (.bool true)], args := [d1, d2, d3, d4, d5] }
  | _ => none }
def tableEntriesRow : OpenClaim := { program := "yteenaokcfhlemaa", sum := "2faaf4137bd2bd358e4b7e6012f73a1531a38767a6e74b585e9376bf2d00b34c", func := "hermitcrab/hermitcrablaw06.TableEntries", spec := "tableEntries", apart := false }
def TableEntriesSaid : Prop := tableEntriesRow.holds Try.pinned (OpenSpec.ofChange tableEntriesSpec)

/-- ITS FALSE NEIGHBOUR: 'it returns false'. Refute it at one input. -/
def tableEntriesWrong : ChangeSpec := { name := "tableEntries", fn := fun _ => fun
  | [d1, d2, d3, d4, d5] => { results := [.lit (.bool false)], args := [d1, d2, d3, d4, d5] }
  | _ => none }
def TableEntriesWrongFalsely : Prop := tableEntriesRow.holds Try.pinned (OpenSpec.ofChange tableEntriesWrong)

/-- 'hermitcrablaw06.TableBytes': WHATEVER THE INPUT: true; the input reads as it did. -/
def tableBytesSpec : ChangeSpec := { name := "tableBytes", fn := fun _ => fun
  | [d1, d2, d3, d4] => { results := [.lit (.bool true)], args := [d1, d2, d3, d4] }
  | _ => none }
def tableBytesRow : OpenClaim := { program := "yteenaokcfhlemaa", sum := "2faaf4137bd2bd358e4b7e6012f73a1531a38767a6e74b585e9376bf2d00b34c", func := "hermitcrab/hermitcrablaw06.TableBytes", spec := "tableBytes", apart := false }
def TableBytesSaid : Prop := tableBytesRow.holds Try.pinned (OpenSpec.ofChange tableBytesSpec)

/-- ITS FALSE NEIGHBOUR: 'it returns false'. Refute it at one input. -/
def tableBytesWrong : ChangeSpec := { name := "tableBytes", fn := fun _ => fun
  | [d1, d2, d3, d4] => { results := [.lit (.bool false)], args := [d1, d2, d3, d4] }
  | _ => none }
def TableBytesWrongFalsely : Prop := tableBytesRow.holds Try.pinned (OpenSpec.ofChange tableBytesWrong)

/-- 'hermitcrablaw06.TablePlays': WHATEVER THE INPUT: true; the input reads as it did. -/
def tablePlaysSpec : ChangeSpec := { name := "tablePlays", fn := fun _ => fun
  | [d1, d2] => { results := [.lit (.bool true)], args := [d1, d2] }
  | _ => none }
def tablePlaysRow : OpenClaim := { program := "yteenaokcfhlemaa", sum := "2faaf4137bd2bd358e4b7e6012f73a1531a38767a6e74b585e9376bf2d00b34c", func := "hermitcrab/hermitcrablaw06.TablePlays", spec := "tablePlays", apart := false }
def TablePlaysSaid : Prop := tablePlaysRow.holds Try.pinned (OpenSpec.ofChange tablePlaysSpec)

/-- ITS FALSE NEIGHBOUR: 'it returns false'. Refute it at one input. -/
def tablePlaysWrong : ChangeSpec := { name := "tablePlays", fn := fun _ => fun
  | [d1, d2] => { results := [.lit (.bool false)], args := [d1, d2] }
  | _ => none }
def TablePlaysWrongFalsely : Prop := tablePlaysRow.holds Try.pinned (OpenSpec.ofChange tablePlaysWrong)

/-- 'hermitcrablaw06.TableErrs': WHATEVER THE INPUT: true; the input reads as it did. -/
def tableErrsSpec : ChangeSpec := { name := "tableErrs", fn := fun _ => fun
  | [d1, d2, d3] => { results := [.lit (.bool true)], args := [d1, d2, d3] }
  | _ => none }
def tableErrsRow : OpenClaim := { program := "yteenaokcfhlemaa", sum := "2faaf4137bd2bd358e4b7e6012f73a1531a38767a6e74b585e9376bf2d00b34c", func := "hermitcrab/hermitcrablaw06.TableErrs", spec := "tableErrs", apart := false }
def TableErrsSaid : Prop := tableErrsRow.holds Try.pinned (OpenSpec.ofChange tableErrsSpec)

/-- ITS FALSE NEIGHBOUR: 'it returns false'. Refute it at one input. -/
def tableErrsWrong : ChangeSpec := { name := "tableErrs", fn := fun _ => fun
  | [d1, d2, d3] => { results := [.lit (.bool false)], args := [d1, d2, d3] }
  | _ => none }
def TableErrsWrongFalsely : Prop := tableErrsRow.holds Try.pinned (OpenSpec.ofChange tableErrsWrong)

/- THE SECOND FORM. 'bulk': how many values and letters a reading holds, each counted each time it is reached (what is shared counts as often as it is met; a slice's spare places count too). A statement '..UptoSaid' is the law's where the arguments, and the package variables that the reading takes, are together of bulk at most 1048576: NARROWER than '..Said'. Prove '..Said' where nothing that the law and all that it calls make is longer than what came in: it says more and counts as full. Else prove '..UptoSaid'. A law counts once. -/
mutual
def uptoBulk {H : Type} : DataW H → Nat
  | .lit (.string bytes) => bytes.length + 1
  | .lit _ => 1
  | .nil => 1
  | .ptr d => uptoBulk d + 1
  | .slice elems spare => uptoBulkAll elems + uptoBulkAll spare + 1
  | .agg parts => uptoBulkAll parts + 1
  | .iface _ d => uptoBulk d + 1
  | .map entries => uptoBulkEntries entries + 1
  | .held _ => 1
def uptoBulkAll {H : Type} : List (DataW H) → Nat
  | [] => 0
  | d :: r => uptoBulk d + uptoBulkAll r
def uptoBulkEntries {H : Type} : List (Lit × DataW H) → Nat
  | [] => 0
  | x :: r => uptoBulkEntry x + uptoBulkEntries r
def uptoBulkEntry {H : Type} : Lit × DataW H → Nat
  | (.string bytes, d) => bytes.length + uptoBulk d + 1
  | (_, d) => uptoBulk d + 1
 end
def uptoSmall : (H : Type) → List (DataW H) → Bool := fun _ ds => decide (uptoBulkAll ds ≤ 1048576)
def OpenSpec.upto (s : _root_.Go.ChangeSpec) : _root_.Go.OpenSpec := { _root_.Go.OpenSpec.ofChange s with cond := some uptoSmall }

/-- 'hermitcrablaw06.TableEntries', WHERE WHAT IT READS IS OF BULK AT MOST 1048576: true; the input reads as it did. -/
def tableEntriesUptoRow : OpenClaim := { program := "yteenaokcfhlemaa", sum := "2faaf4137bd2bd358e4b7e6012f73a1531a38767a6e74b585e9376bf2d00b34c", func := "hermitcrab/hermitcrablaw06.TableEntries", spec := "tableEntries", apart := false, narrowed := true }
def TableEntriesUptoSaid : Prop := tableEntriesUptoRow.holds Try.pinned (OpenSpec.upto tableEntriesSpec)

/-- 'hermitcrablaw06.TableBytes', WHERE WHAT IT READS IS OF BULK AT MOST 1048576: true; the input reads as it did. -/
def tableBytesUptoRow : OpenClaim := { program := "yteenaokcfhlemaa", sum := "2faaf4137bd2bd358e4b7e6012f73a1531a38767a6e74b585e9376bf2d00b34c", func := "hermitcrab/hermitcrablaw06.TableBytes", spec := "tableBytes", apart := false, narrowed := true }
def TableBytesUptoSaid : Prop := tableBytesUptoRow.holds Try.pinned (OpenSpec.upto tableBytesSpec)

/-- 'hermitcrablaw06.TablePlays', WHERE WHAT IT READS IS OF BULK AT MOST 1048576: true; the input reads as it did. -/
def tablePlaysUptoRow : OpenClaim := { program := "yteenaokcfhlemaa", sum := "2faaf4137bd2bd358e4b7e6012f73a1531a38767a6e74b585e9376bf2d00b34c", func := "hermitcrab/hermitcrablaw06.TablePlays", spec := "tablePlays", apart := false, narrowed := true }
def TablePlaysUptoSaid : Prop := tablePlaysUptoRow.holds Try.pinned (OpenSpec.upto tablePlaysSpec)

/-- 'hermitcrablaw06.TableErrs', WHERE WHAT IT READS IS OF BULK AT MOST 1048576: true; the input reads as it did. -/
def tableErrsUptoRow : OpenClaim := { program := "yteenaokcfhlemaa", sum := "2faaf4137bd2bd358e4b7e6012f73a1531a38767a6e74b585e9376bf2d00b34c", func := "hermitcrab/hermitcrablaw06.TableErrs", spec := "tableErrs", apart := false, narrowed := true }
def TableErrsUptoSaid : Prop := tableErrsUptoRow.holds Try.pinned (OpenSpec.upto tableErrsSpec)

end Rows
end Go.Proofs.Yteenaokcfhlemaa
