/-
  No cell of these rows narrows 'for every input' (looked for: loops, veiled, ifaces, maps, wideKeys, modest, calm, conditions, laid).
  DERIVED. THE GIVEN ROWS OF THIS SEAT. 5 by the template 'for every input the law returns true; each argument reads behind the call as it read before'; 0 by the template 'total and deterministic' (their statements: YtpimjioamoaejaaTotals.lean).
  GIVEN WITH THE SEED: the statements are not yours to turn. If you find one false, say at which input.
  Laid BY PROGRAM, IN A SANDBOX (cutbox-rows.mjs): the forced cells as the released guide's own fill.sh prints them over the translation 90cf62e9a71d52be… (all of the seat's roots in one cut). By AI agents, Wed Nov 11 2026. No macro, syntax, notation, axiom, sorry.
-/
import Derived.Test.YtpimjioamoaejaaChecked
import GoSem.Claim
import GoSem.ClaimJoined
import GoSem.ClaimMapViews
import Derived.JoinedTies
import Derived.KernelRfl
namespace Go.Proofs.Ytpimjioamoaejaa
/- THE CELL 'sum', in the pinned program and in every row, IS THE sha256 OF THE DUMP (.gsa) THAT YtpimjioamoaejaaProg.lean LOADS. Nothing in Lean hashes anything: it is a label: what it is worth is what the hold of that sum in a sandbox is worth. -/
noncomputable def Try.pinned : Pinned := { name := "ytpimjioamoaejaa", sum := "90cf62e9a71d52be36c82dd26a00d0ba8cbf1ed5e13a1b960f7100dcedb848cd", checked := Try.checked }
namespace Rows
def none {H : Type} : Left H := { results := [], args := [] }

/-- 'hermitcrablaw17.PieceSums': WHATEVER THE INPUT: true; the input reads as it did. -/
def pieceSumsSpec : ChangeSpec := { name := "pieceSums", fn := fun _ => fun
  | [d] => { results := [.lit (.bool true)], args := [d] }
  | _ => none }
def pieceSumsRow : OpenClaim := { program := "ytpimjioamoaejaa", sum := "90cf62e9a71d52be36c82dd26a00d0ba8cbf1ed5e13a1b960f7100dcedb848cd", func := "hermitcrab/hermitcrablaw17.PieceSums", spec := "pieceSums", apart := false }
def PieceSumsSaid : Prop := pieceSumsRow.holds Try.pinned (OpenSpec.ofChange pieceSumsSpec)

/-- ITS FALSE NEIGHBOUR: 'it returns false'. Refute it at one input. -/
def pieceSumsWrong : ChangeSpec := { name := "pieceSums", fn := fun _ => fun
  | [d] => { results := [.lit (.bool false)], args := [d] }
  | _ => none }
def PieceSumsWrongFalsely : Prop := pieceSumsRow.holds Try.pinned (OpenSpec.ofChange pieceSumsWrong)

/-- 'hermitcrablaw17.PieceReads': WHATEVER THE INPUT: true; the input reads as it did. -/
def pieceReadsSpec : ChangeSpec := { name := "pieceReads", fn := fun _ => fun
  | [d1, d2] => { results := [.lit (.bool true)], args := [d1, d2] }
  | _ => none }
def pieceReadsRow : OpenClaim := { program := "ytpimjioamoaejaa", sum := "90cf62e9a71d52be36c82dd26a00d0ba8cbf1ed5e13a1b960f7100dcedb848cd", func := "hermitcrab/hermitcrablaw17.PieceReads", spec := "pieceReads", apart := false }
def PieceReadsSaid : Prop := pieceReadsRow.holds Try.pinned (OpenSpec.ofChange pieceReadsSpec)

/-- ITS FALSE NEIGHBOUR: 'it returns false'. Refute it at one input. -/
def pieceReadsWrong : ChangeSpec := { name := "pieceReads", fn := fun _ => fun
  | [d1, d2] => { results := [.lit (.bool false)], args := [d1, d2] }
  | _ => none }
def PieceReadsWrongFalsely : Prop := pieceReadsRow.holds Try.pinned (OpenSpec.ofChange pieceReadsWrong)

/-- 'hermitcrablaw17.PieceTurns': WHATEVER THE INPUT: true; the input reads as it did. -/
def pieceTurnsSpec : ChangeSpec := { name := "pieceTurns", fn := fun _ => fun
  | [d1, d2, d3, d4] => { results := [.lit (.bool true)], args := [d1, d2, d3, d4] }
  | _ => none }
def pieceTurnsRow : OpenClaim := { program := "ytpimjioamoaejaa", sum := "90cf62e9a71d52be36c82dd26a00d0ba8cbf1ed5e13a1b960f7100dcedb848cd", func := "hermitcrab/hermitcrablaw17.PieceTurns", spec := "pieceTurns", apart := false }
def PieceTurnsSaid : Prop := pieceTurnsRow.holds Try.pinned (OpenSpec.ofChange pieceTurnsSpec)

/-- ITS FALSE NEIGHBOUR: 'it returns false'. Refute it at one input. -/
def pieceTurnsWrong : ChangeSpec := { name := "pieceTurns", fn := fun _ => fun
  | [d1, d2, d3, d4] => { results := [.lit (.bool false)], args := [d1, d2, d3, d4] }
  | _ => none }
def PieceTurnsWrongFalsely : Prop := pieceTurnsRow.holds Try.pinned (OpenSpec.ofChange pieceTurnsWrong)

/-- 'hermitcrablaw17.PieceJoins': WHATEVER THE INPUT: true; the input reads as it did. -/
def pieceJoinsSpec : ChangeSpec := { name := "pieceJoins", fn := fun _ => fun
  | [d1, d2] => { results := [.lit (.bool true)], args := [d1, d2] }
  | _ => none }
def pieceJoinsRow : OpenClaim := { program := "ytpimjioamoaejaa", sum := "90cf62e9a71d52be36c82dd26a00d0ba8cbf1ed5e13a1b960f7100dcedb848cd", func := "hermitcrab/hermitcrablaw17.PieceJoins", spec := "pieceJoins", apart := false }
def PieceJoinsSaid : Prop := pieceJoinsRow.holds Try.pinned (OpenSpec.ofChange pieceJoinsSpec)

/-- ITS FALSE NEIGHBOUR: 'it returns false'. Refute it at one input. -/
def pieceJoinsWrong : ChangeSpec := { name := "pieceJoins", fn := fun _ => fun
  | [d1, d2] => { results := [.lit (.bool false)], args := [d1, d2] }
  | _ => none }
def PieceJoinsWrongFalsely : Prop := pieceJoinsRow.holds Try.pinned (OpenSpec.ofChange pieceJoinsWrong)

/-- 'hermitcrablaw17.PieceNums': WHATEVER THE INPUT: true; the input reads as it did. -/
def pieceNumsSpec : ChangeSpec := { name := "pieceNums", fn := fun _ => fun
  | [d1, d2, d3, d4] => { results := [.lit (.bool true)], args := [d1, d2, d3, d4] }
  | _ => none }
def pieceNumsRow : OpenClaim := { program := "ytpimjioamoaejaa", sum := "90cf62e9a71d52be36c82dd26a00d0ba8cbf1ed5e13a1b960f7100dcedb848cd", func := "hermitcrab/hermitcrablaw17.PieceNums", spec := "pieceNums", apart := false }
def PieceNumsSaid : Prop := pieceNumsRow.holds Try.pinned (OpenSpec.ofChange pieceNumsSpec)

/-- ITS FALSE NEIGHBOUR: 'it returns false'. Refute it at one input. -/
def pieceNumsWrong : ChangeSpec := { name := "pieceNums", fn := fun _ => fun
  | [d1, d2, d3, d4] => { results := [.lit (.bool false)], args := [d1, d2, d3, d4] }
  | _ => none }
def PieceNumsWrongFalsely : Prop := pieceNumsRow.holds Try.pinned (OpenSpec.ofChange pieceNumsWrong)

/- THE SECOND FORM. 'bulk': how many values and letters a reading holds, each counted each time it is reached (what is shared counts as often as it is met; a slice's spare places count too). A statement '..UptoSaid' is the law's where the arguments, and the package variables that the reading takes, are together of bulk at most 1048576: NARROWER than '..Said'. Prove '..Said' where nothing that the law and all that it calls make is longer than what came in: it says more and counts as full. Else prove '..UptoSaid'. A law counts once. -/
mutual
def uptoBulk {H : Type} : DataW H → Nat
  | .lit (.string bytes) => bytes.length + 1
  | .lit _ => 1
  | .nil => 1
  | .ptr d => uptoBulk d + 1
  | .slice elems spare => uptoBulkAll elems + uptoBulkAll spare + 1
  | .agg parts => uptoBulkAll parts + 1
  | .iface _ d => uptoBulk d + 1
  | .map entries => uptoBulkEntries entries + 1
  | .held _ => 1
def uptoBulkAll {H : Type} : List (DataW H) → Nat
  | [] => 0
  | d :: r => uptoBulk d + uptoBulkAll r
def uptoBulkEntries {H : Type} : List (Lit × DataW H) → Nat
  | [] => 0
  | x :: r => uptoBulkEntry x + uptoBulkEntries r
def uptoBulkEntry {H : Type} : Lit × DataW H → Nat
  | (.string bytes, d) => bytes.length + uptoBulk d + 1
  | (_, d) => uptoBulk d + 1
 end
def uptoSmall : (H : Type) → List (DataW H) → Bool := fun _ ds => decide (uptoBulkAll ds ≤ 1048576)
def OpenSpec.upto (s : _root_.Go.ChangeSpec) : _root_.Go.OpenSpec := { _root_.Go.OpenSpec.ofChange s with cond := some uptoSmall }

/-- 'hermitcrablaw17.PieceSums', WHERE WHAT IT READS IS OF BULK AT MOST 1048576: true; the input reads as it did. -/
def pieceSumsUptoRow : OpenClaim := { program := "ytpimjioamoaejaa", sum := "90cf62e9a71d52be36c82dd26a00d0ba8cbf1ed5e13a1b960f7100dcedb848cd", func := "hermitcrab/hermitcrablaw17.PieceSums", spec := "pieceSums", apart := false, narrowed := true }
def PieceSumsUptoSaid : Prop := pieceSumsUptoRow.holds Try.pinned (OpenSpec.upto pieceSumsSpec)

/-- 'hermitcrablaw17.PieceReads', WHERE WHAT IT READS IS OF BULK AT MOST 1048576: true; the input reads as it did. -/
def pieceReadsUptoRow : OpenClaim := { program := "ytpimjioamoaejaa", sum := "90cf62e9a71d52be36c82dd26a00d0ba8cbf1ed5e13a1b960f7100dcedb848cd", func := "hermitcrab/hermitcrablaw17.PieceReads", spec := "pieceReads", apart := false, narrowed := true }
def PieceReadsUptoSaid : Prop := pieceReadsUptoRow.holds Try.pinned (OpenSpec.upto pieceReadsSpec)

/-- 'hermitcrablaw17.PieceTurns', WHERE WHAT IT READS IS OF BULK AT MOST 1048576: true; the input reads as it did. -/
def pieceTurnsUptoRow : OpenClaim := { program := "ytpimjioamoaejaa", sum := "90cf62e9a71d52be36c82dd26a00d0ba8cbf1ed5e13a1b960f7100dcedb848cd", func := "hermitcrab/hermitcrablaw17.PieceTurns", spec := "pieceTurns", apart := false, narrowed := true }
def PieceTurnsUptoSaid : Prop := pieceTurnsUptoRow.holds Try.pinned (OpenSpec.upto pieceTurnsSpec)

/-- 'hermitcrablaw17.PieceJoins', WHERE WHAT IT READS IS OF BULK AT MOST 1048576: true; the input reads as it did. -/
def pieceJoinsUptoRow : OpenClaim := { program := "ytpimjioamoaejaa", sum := "90cf62e9a71d52be36c82dd26a00d0ba8cbf1ed5e13a1b960f7100dcedb848cd", func := "hermitcrab/hermitcrablaw17.PieceJoins", spec := "pieceJoins", apart := false, narrowed := true }
def PieceJoinsUptoSaid : Prop := pieceJoinsUptoRow.holds Try.pinned (OpenSpec.upto pieceJoinsSpec)

/-- 'hermitcrablaw17.PieceNums', WHERE WHAT IT READS IS OF BULK AT MOST 1048576: true; the input reads as it did. -/
def pieceNumsUptoRow : OpenClaim := { program := "ytpimjioamoaejaa", sum := "90cf62e9a71d52be36c82dd26a00d0ba8cbf1ed5e13a1b960f7100dcedb848cd", func := "hermitcrab/hermitcrablaw17.PieceNums", spec := "pieceNums", apart := false, narrowed := true }
def PieceNumsUptoSaid : Prop := pieceNumsUptoRow.holds Try.pinned (OpenSpec.upto pieceNumsSpec)

end Rows
end Go.Proofs.Ytpimjioamoaejaa
