/-
  No cell of these rows narrows 'for every input' (looked for: loops, veiled, ifaces, maps, wideKeys, modest, calm, conditions, laid).
  DERIVED. THE GIVEN ROWS OF THIS SEAT. 6 by the template 'for every input the law returns true; each argument reads behind the call as it read before'; 0 by the template 'total and deterministic' (their statements: YtfmedcgejdkehaaTotals.lean).
  GIVEN WITH THE SEED: the statements are not yours to turn. If you find one false, say at which input.
  Laid BY PROGRAM, IN A SANDBOX (cutbox-rows.mjs): the forced cells as the released guide's own fill.sh prints them over the translation 6f66efe3a1f1e6c8… (all of the seat's roots in one cut). By AI agents, Wed Nov 11 2026. No macro, syntax, notation, axiom, sorry.
-/
import Derived.Test.YtfmedcgejdkehaaChecked
import GoSem.Claim
import GoSem.ClaimJoined
import GoSem.ClaimMapViews
import Derived.JoinedTies
import Derived.KernelRfl
namespace Go.Proofs.Ytfmedcgejdkehaa
/- THE CELL 'sum', in the pinned program and in every row, IS THE sha256 OF THE DUMP (.gsa) THAT YtfmedcgejdkehaaProg.lean LOADS. Nothing in Lean hashes anything: it is a label: what it is worth is what the hold of that sum in a sandbox is worth. -/
noncomputable def Try.pinned : Pinned := { name := "ytfmedcgejdkehaa", sum := "6f66efe3a1f1e6c81a0c877e25e7b99cac382ace3790b29c10b39ef0915f5145", checked := Try.checked }
namespace Rows
def none {H : Type} : Left H := { results := [], args := [] }

/-- 'hermitcrablaw01.WordSigns': WHATEVER THE INPUT: true; the input reads as it did. -/
def wordSignsSpec : ChangeSpec := { name := "wordSigns", fn := fun _ => fun
  | [d1, d2] => { results := [.lit (.bool true)], args := [d1, d2] }
  | _ => none }
def wordSignsRow : OpenClaim := { program := "ytfmedcgejdkehaa", sum := "6f66efe3a1f1e6c81a0c877e25e7b99cac382ace3790b29c10b39ef0915f5145", func := "hermitcrab/hermitcrablaw01.WordSigns", spec := "wordSigns", apart := false }
def WordSignsSaid : Prop := wordSignsRow.holds Try.pinned (OpenSpec.ofChange wordSignsSpec)

/-- ITS FALSE NEIGHBOUR: 'it returns false'. Refute it at one input. -/
def wordSignsWrong : ChangeSpec := { name := "wordSigns", fn := fun _ => fun
  | [d1, d2] => { results := [.lit (.bool false)], args := [d1, d2] }
  | _ => none }
def WordSignsWrongFalsely : Prop := wordSignsRow.holds Try.pinned (OpenSpec.ofChange wordSignsWrong)

/-- 'hermitcrablaw01.WordFields': WHATEVER THE INPUT: true; the input reads as it did. -/
def wordFieldsSpec : ChangeSpec := { name := "wordFields", fn := fun _ => fun
  | [d1, d2, d3, d4] => { results := [.lit (.bool true)], args := [d1, d2, d3, d4] }
  | _ => none }
def wordFieldsRow : OpenClaim := { program := "ytfmedcgejdkehaa", sum := "6f66efe3a1f1e6c81a0c877e25e7b99cac382ace3790b29c10b39ef0915f5145", func := "hermitcrab/hermitcrablaw01.WordFields", spec := "wordFields", apart := false }
def WordFieldsSaid : Prop := wordFieldsRow.holds Try.pinned (OpenSpec.ofChange wordFieldsSpec)

/-- ITS FALSE NEIGHBOUR: 'it returns false'. Refute it at one input. -/
def wordFieldsWrong : ChangeSpec := { name := "wordFields", fn := fun _ => fun
  | [d1, d2, d3, d4] => { results := [.lit (.bool false)], args := [d1, d2, d3, d4] }
  | _ => none }
def WordFieldsWrongFalsely : Prop := wordFieldsRow.holds Try.pinned (OpenSpec.ofChange wordFieldsWrong)

/-- 'hermitcrablaw01.WordBack': WHATEVER THE INPUT: true; the input reads as it did. -/
def wordBackSpec : ChangeSpec := { name := "wordBack", fn := fun _ => fun
  | [d1, d2, d3, d4] => { results := [.lit (.bool true)], args := [d1, d2, d3, d4] }
  | _ => none }
def wordBackRow : OpenClaim := { program := "ytfmedcgejdkehaa", sum := "6f66efe3a1f1e6c81a0c877e25e7b99cac382ace3790b29c10b39ef0915f5145", func := "hermitcrab/hermitcrablaw01.WordBack", spec := "wordBack", apart := false }
def WordBackSaid : Prop := wordBackRow.holds Try.pinned (OpenSpec.ofChange wordBackSpec)

/-- ITS FALSE NEIGHBOUR: 'it returns false'. Refute it at one input. -/
def wordBackWrong : ChangeSpec := { name := "wordBack", fn := fun _ => fun
  | [d1, d2, d3, d4] => { results := [.lit (.bool false)], args := [d1, d2, d3, d4] }
  | _ => none }
def WordBackWrongFalsely : Prop := wordBackRow.holds Try.pinned (OpenSpec.ofChange wordBackWrong)

/-- 'hermitcrablaw01.WordSplits': WHATEVER THE INPUT: true; the input reads as it did. -/
def wordSplitsSpec : ChangeSpec := { name := "wordSplits", fn := fun _ => fun
  | [d1, d2] => { results := [.lit (.bool true)], args := [d1, d2] }
  | _ => none }
def wordSplitsRow : OpenClaim := { program := "ytfmedcgejdkehaa", sum := "6f66efe3a1f1e6c81a0c877e25e7b99cac382ace3790b29c10b39ef0915f5145", func := "hermitcrab/hermitcrablaw01.WordSplits", spec := "wordSplits", apart := false }
def WordSplitsSaid : Prop := wordSplitsRow.holds Try.pinned (OpenSpec.ofChange wordSplitsSpec)

/-- ITS FALSE NEIGHBOUR: 'it returns false'. Refute it at one input. -/
def wordSplitsWrong : ChangeSpec := { name := "wordSplits", fn := fun _ => fun
  | [d1, d2] => { results := [.lit (.bool false)], args := [d1, d2] }
  | _ => none }
def WordSplitsWrongFalsely : Prop := wordSplitsRow.holds Try.pinned (OpenSpec.ofChange wordSplitsWrong)

/-- 'hermitcrablaw01.WordBytes': WHATEVER THE INPUT: true; the input reads as it did. -/
def wordBytesSpec : ChangeSpec := { name := "wordBytes", fn := fun _ => fun
  | [d1, d2] => { results := [.lit (.bool true)], args := [d1, d2] }
  | _ => none }
def wordBytesRow : OpenClaim := { program := "ytfmedcgejdkehaa", sum := "6f66efe3a1f1e6c81a0c877e25e7b99cac382ace3790b29c10b39ef0915f5145", func := "hermitcrab/hermitcrablaw01.WordBytes", spec := "wordBytes", apart := false }
def WordBytesSaid : Prop := wordBytesRow.holds Try.pinned (OpenSpec.ofChange wordBytesSpec)

/-- ITS FALSE NEIGHBOUR: 'it returns false'. Refute it at one input. -/
def wordBytesWrong : ChangeSpec := { name := "wordBytes", fn := fun _ => fun
  | [d1, d2] => { results := [.lit (.bool false)], args := [d1, d2] }
  | _ => none }
def WordBytesWrongFalsely : Prop := wordBytesRow.holds Try.pinned (OpenSpec.ofChange wordBytesWrong)

/-- 'hermitcrablaw01.WordMixes': WHATEVER THE INPUT: true; the input reads as it did. -/
def wordMixesSpec : ChangeSpec := { name := "wordMixes", fn := fun _ => fun
  | [d1, d2] => { results := [.lit (.bool true)], args := [d1, d2] }
  | _ => none }
def wordMixesRow : OpenClaim := { program := "ytfmedcgejdkehaa", sum := "6f66efe3a1f1e6c81a0c877e25e7b99cac382ace3790b29c10b39ef0915f5145", func := "hermitcrab/hermitcrablaw01.WordMixes", spec := "wordMixes", apart := false }
def WordMixesSaid : Prop := wordMixesRow.holds Try.pinned (OpenSpec.ofChange wordMixesSpec)

/-- ITS FALSE NEIGHBOUR: 'it returns false'. Refute it at one input. -/
def wordMixesWrong : ChangeSpec := { name := "wordMixes", fn := fun _ => fun
  | [d1, d2] => { results := [.lit (.bool false)], args := [d1, d2] }
  | _ => none }
def WordMixesWrongFalsely : Prop := wordMixesRow.holds Try.pinned (OpenSpec.ofChange wordMixesWrong)

/- THE SECOND FORM. 'bulk': how many values and letters a reading holds, each counted each time it is reached (what is shared counts as often as it is met; a slice's spare places count too). A statement '..UptoSaid' is the law's where the arguments, and the package variables that the reading takes, are together of bulk at most 1048576: NARROWER than '..Said'. Prove '..Said' where nothing that the law and all that it calls make is longer than what came in: it says more and counts as full. Else prove '..UptoSaid'. A law counts once. -/
mutual
def uptoBulk {H : Type} : DataW H → Nat
  | .lit (.string bytes) => bytes.length + 1
  | .lit _ => 1
  | .nil => 1
  | .ptr d => uptoBulk d + 1
  | .slice elems spare => uptoBulkAll elems + uptoBulkAll spare + 1
  | .agg parts => uptoBulkAll parts + 1
  | .iface _ d => uptoBulk d + 1
  | .map entries => uptoBulkEntries entries + 1
  | .held _ => 1
def uptoBulkAll {H : Type} : List (DataW H) → Nat
  | [] => 0
  | d :: r => uptoBulk d + uptoBulkAll r
def uptoBulkEntries {H : Type} : List (Lit × DataW H) → Nat
  | [] => 0
  | x :: r => uptoBulkEntry x + uptoBulkEntries r
def uptoBulkEntry {H : Type} : Lit × DataW H → Nat
  | (.string bytes, d) => bytes.length + uptoBulk d + 1
  | (_, d) => uptoBulk d + 1
 end
def uptoSmall : (H : Type) → List (DataW H) → Bool := fun _ ds => decide (uptoBulkAll ds ≤ 1048576)
def OpenSpec.upto (s : _root_.Go.ChangeSpec) : _root_.Go.OpenSpec := { _root_.Go.OpenSpec.ofChange s with cond := some uptoSmall }

/-- 'hermitcrablaw01.WordSigns', WHERE WHAT IT READS IS OF BULK AT MOST 1048576: true; the input reads as it did. -/
def wordSignsUptoRow : OpenClaim := { program := "ytfmedcgejdkehaa", sum := "6f66efe3a1f1e6c81a0c877e25e7b99cac382ace3790b29c10b39ef0915f5145", func := "hermitcrab/hermitcrablaw01.WordSigns", spec := "wordSigns", apart := false, narrowed := true }
def WordSignsUptoSaid : Prop := wordSignsUptoRow.holds Try.pinned (OpenSpec.upto wordSignsSpec)

/-- 'hermitcrablaw01.WordFields', WHERE WHAT IT READS IS OF BULK AT MOST 1048576: true; the input reads as it did. -/
def wordFieldsUptoRow : OpenClaim := { program := "ytfmedcgejdkehaa", sum := "6f66efe3a1f1e6c81a0c877e25e7b99cac382ace3790b29c10b39ef0915f5145", func := "hermitcrab/hermitcrablaw01.WordFields", spec := "wordFields", apart := false, narrowed := true }
def WordFieldsUptoSaid : Prop := wordFieldsUptoRow.holds Try.pinned (OpenSpec.upto wordFieldsSpec)

/-- 'hermitcrablaw01.WordBack', WHERE WHAT IT READS IS OF BULK AT MOST 1048576: true; the input reads as it did. -/
def wordBackUptoRow : OpenClaim := { program := "ytfmedcgejdkehaa", sum := "6f66efe3a1f1e6c81a0c877e25e7b99cac382ace3790b29c10b39ef0915f5145", func := "hermitcrab/hermitcrablaw01.WordBack", spec := "wordBack", apart := false, narrowed := true }
def WordBackUptoSaid : Prop := wordBackUptoRow.holds Try.pinned (OpenSpec.upto wordBackSpec)

/-- 'hermitcrablaw01.WordSplits', WHERE WHAT IT READS IS OF BULK AT MOST 1048576: true; the input reads as it did. -/
def wordSplitsUptoRow : OpenClaim := { program := "ytfmedcgejdkehaa", sum := "6f66efe3a1f1e6c81a0c877e25e7b99cac382ace3790b29c10b39ef0915f5145", func := "hermitcrab/hermitcrablaw01.WordSplits", spec := "wordSplits", apart := false, narrowed := true }
def WordSplitsUptoSaid : Prop := wordSplitsUptoRow.holds Try.pinned (OpenSpec.upto wordSplitsSpec)

/-- 'hermitcrablaw01.WordBytes', WHERE WHAT IT READS IS OF BULK AT MOST 1048576: true; the input reads as it did. -/
def wordBytesUptoRow : OpenClaim := { program := "ytfmedcgejdkehaa", sum := "6f66efe3a1f1e6c81a0c877e25e7b99cac382ace3790b29c10b39ef0915f5145", func := "hermitcrab/hermitcrablaw01.WordBytes", spec := "wordBytes", apart := false, narrowed := true }
def WordBytesUptoSaid : Prop := wordBytesUptoRow.holds Try.pinned (OpenSpec.upto wordBytesSpec)

/-- 'hermitcrablaw01.WordMixes', WHERE WHAT IT READS IS OF BULK AT MOST 1048576: true; the input reads as it did. -/
def wordMixesUptoRow : OpenClaim := { program := "ytfmedcgejdkehaa", sum := "6f66efe3a1f1e6c81a0c877e25e7b99cac382ace3790b29c10b39ef0915f5145", func := "hermitcrab/hermitcrablaw01.WordMixes", spec := "wordMixes", apart := false, narrowed := true }
def WordMixesUptoSaid : Prop := wordMixesUptoRow.holds Try.pinned (OpenSpec.upto wordMixesSpec)

end Rows
end Go.Proofs.Ytfmedcgejdkehaa
