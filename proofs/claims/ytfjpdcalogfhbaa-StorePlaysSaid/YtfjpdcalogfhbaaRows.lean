/-
  No cell of these rows narrows 'for every input' (looked for: loops, veiled, ifaces, maps, wideKeys, modest, calm, conditions, laid).
  DERIVED. THE GIVEN ROWS OF THIS SEAT. 4 by the template 'for every input the law returns true; each argument reads behind the call as it read before'; 0 by the template 'total and deterministic' (their statements: YtfjpdcalogfhbaaTotals.lean).
  GIVEN WITH THE SEED: the statements are not yours to turn. If you find one false, say at which input.
  Laid BY PROGRAM, IN A SANDBOX (cutbox-rows.mjs): the forced cells as the released guide's own fill.sh prints them over the translation 1eadae3fd607b117… (all of the seat's roots in one cut). By AI agents, Wed Nov 11 2026. No macro, syntax, notation, axiom, sorry.
-/
import Derived.Test.YtfjpdcalogfhbaaChecked
import GoSem.Claim
import GoSem.ClaimJoined
import GoSem.ClaimMapViews
import Derived.JoinedTies
import Derived.KernelRfl
namespace Go.Proofs.Ytfjpdcalogfhbaa
/- THE CELL 'sum', in the pinned program and in every row, IS THE sha256 OF THE DUMP (.gsa) THAT YtfjpdcalogfhbaaProg.lean LOADS. Nothing in Lean hashes anything: it is a label: what it is worth is what the hold of that sum in a sandbox is worth. -/
noncomputable def Try.pinned : Pinned := { name := "ytfjpdcalogfhbaa", sum := "1eadae3fd607b117681a18c9ca976d51b4ccdd0c945bb70ffd3460468ba60180", checked := Try.checked }
namespace Rows
def none {H : Type} : Left H := { results := [], args := [] }

/-- 'hermitcrablaw04.StorePlays': WHATEVER THE INPUT: true; the input reads as it did. -/
def storePlaysSpec : ChangeSpec := { name := "storePlays", fn := fun _ => fun
  | [d1, d2] => { results := [.lit (.bool true)], args := [d1, d2] }
  | _ => none }
def storePlaysRow : OpenClaim := { program := "ytfjpdcalogfhbaa", sum := "1eadae3fd607b117681a18c9ca976d51b4ccdd0c945bb70ffd3460468ba60180", func := "hermitcrab/hermitcrablaw04.StorePlays", spec := "storePlays", apart := false }
def StorePlaysSaid : Prop := storePlaysRow.holds Try.pinned (OpenSpec.ofChange storePlaysSpec)

/-- ITS FALSE NEIGHBOUR: 'it returns false'. Refute it at one input. -/
def storePlaysWrong : ChangeSpec := { name := "storePlays", fn := fun _ => fun
  | [d1, d2] => { results := [.lit (.bool false)], args := [d1, d2] }
  | _ => none }
def StorePlaysWrongFalsely : Prop := storePlaysRow.holds Try.pinned (OpenSpec.ofChange storePlaysWrong)

/-- 'hermitcrablaw04.StoreTwins': WHATEVER THE INPUT: true; the input reads as it did. -/
def storeTwinsSpec : ChangeSpec := { name := "storeTwins", fn := fun _ => fun
  | [d1, d2, d3, d4] => { results := [.lit (.bool true)], args := [d1, d2, d3, d4] }
  | _ => none }
def storeTwinsRow : OpenClaim := { program := "ytfjpdcalogfhbaa", sum := "1eadae3fd607b117681a18c9ca976d51b4ccdd0c945bb70ffd3460468ba60180", func := "hermitcrab/hermitcrablaw04.StoreTwins", spec := "storeTwins", apart := false }
def StoreTwinsSaid : Prop := storeTwinsRow.holds Try.pinned (OpenSpec.ofChange storeTwinsSpec)

/-- ITS FALSE NEIGHBOUR: 'it returns false'. Refute it at one input. -/
def storeTwinsWrong : ChangeSpec := { name := "storeTwins", fn := fun _ => fun
  | [d1, d2, d3, d4] => { results := [.lit (.bool false)], args := [d1, d2, d3, d4] }
  | _ => none }
def StoreTwinsWrongFalsely : Prop := storeTwinsRow.holds Try.pinned (OpenSpec.ofChange storeTwinsWrong)

/-- 'hermitcrablaw04.StoreReads': WHATEVER THE INPUT: true; the input reads as it did. -/
def storeReadsSpec : ChangeSpec := { name := "storeReads", fn := fun _ => fun
  | [d1, d2, d3, d4] => { results := [.lit (.bool true)], args := [d1, d2, d3, d4] }
  | _ => none }
def storeReadsRow : OpenClaim := { program := "ytfjpdcalogfhbaa", sum := "1eadae3fd607b117681a18c9ca976d51b4ccdd0c945bb70ffd3460468ba60180", func := "hermitcrab/hermitcrablaw04.StoreReads", spec := "storeReads", apart := false }
def StoreReadsSaid : Prop := storeReadsRow.holds Try.pinned (OpenSpec.ofChange storeReadsSpec)

/-- ITS FALSE NEIGHBOUR: 'it returns false'. Refute it at one input. -/
def storeReadsWrong : ChangeSpec := { name := "storeReads", fn := fun _ => fun
  | [d1, d2, d3, d4] => { results := [.lit (.bool false)], args := [d1, d2, d3, d4] }
  | _ => none }
def StoreReadsWrongFalsely : Prop := storeReadsRow.holds Try.pinned (OpenSpec.ofChange storeReadsWrong)

/-- 'hermitcrablaw04.StoreWords': WHATEVER THE INPUT: true; the input reads as it did. -/
def storeWordsSpec : ChangeSpec := { name := "storeWords", fn := fun _ => fun
  | [d] => { results := [.lit (.bool true)], args := [d] }
  | _ => none }
def storeWordsRow : OpenClaim := { program := "ytfjpdcalogfhbaa", sum := "1eadae3fd607b117681a18c9ca976d51b4ccdd0c945bb70ffd3460468ba60180", func := "hermitcrab/hermitcrablaw04.StoreWords", spec := "storeWords", apart := false }
def StoreWordsSaid : Prop := storeWordsRow.holds Try.pinned (OpenSpec.ofChange storeWordsSpec)

/-- ITS FALSE NEIGHBOUR: 'it returns false'. Refute it at one input. -/
def storeWordsWrong : ChangeSpec := { name := "storeWords", fn := fun _ => fun
  | [d] => { results := [.lit (.bool false)], args := [d] }
  | _ => none }
def StoreWordsWrongFalsely : Prop := storeWordsRow.holds Try.pinned (OpenSpec.ofChange storeWordsWrong)

/- THE SECOND FORM. 'bulk': how many values and letters a reading holds, each counted each time it is reached (what is shared counts as often as it is met; a slice's spare places count too). A statement '..UptoSaid' is the law's where the arguments, and the package variables that the reading takes, are together of bulk at most 1048576: NARROWER than '..Said'. Prove '..Said' where nothing that the law and all that it calls make is longer than what came in: it says more and counts as full. Else prove '..UptoSaid'. A law counts once. -/
mutual
def uptoBulk {H : Type} : DataW H → Nat
  | .lit (.string bytes) => bytes.length + 1
  | .lit _ => 1
  | .nil => 1
  | .ptr d => uptoBulk d + 1
  | .slice elems spare => uptoBulkAll elems + uptoBulkAll spare + 1
  | .agg parts => uptoBulkAll parts + 1
  | .iface _ d => uptoBulk d + 1
  | .map entries => uptoBulkEntries entries + 1
  | .held _ => 1
def uptoBulkAll {H : Type} : List (DataW H) → Nat
  | [] => 0
  | d :: r => uptoBulk d + uptoBulkAll r
def uptoBulkEntries {H : Type} : List (Lit × DataW H) → Nat
  | [] => 0
  | x :: r => uptoBulkEntry x + uptoBulkEntries r
def uptoBulkEntry {H : Type} : Lit × DataW H → Nat
  | (.string bytes, d) => bytes.length + uptoBulk d + 1
  | (_, d) => uptoBulk d + 1
 end
def uptoSmall : (H : Type) → List (DataW H) → Bool := fun _ ds => decide (uptoBulkAll ds ≤ 1048576)
def OpenSpec.upto (s : _root_.Go.ChangeSpec) : _root_.Go.OpenSpec := { _root_.Go.OpenSpec.ofChange s with cond := some uptoSmall }

/-- 'hermitcrablaw04.StorePlays', WHERE WHAT IT READS IS OF BULK AT MOST 1048576: true; the input reads as it did. -/
def storePlaysUptoRow : OpenClaim := { program := "ytfjpdcalogfhbaa", sum := "1eadae3fd607b117681a18c9ca976d51b4ccdd0c945bb70ffd3460468ba60180", func := "hermitcrab/hermitcrablaw04.StorePlays", spec := "storePlays", apart := false, narrowed := true }
def StorePlaysUptoSaid : Prop := storePlaysUptoRow.holds Try.pinned (OpenSpec.upto storePlaysSpec)

/-- 'hermitcrablaw04.StoreTwins', WHERE WHAT IT READS IS OF BULK AT MOST 1048576: true; the input reads as it did. -/
def storeTwinsUptoRow : OpenClaim := { program := "ytfjpdcalogfhbaa", sum := "1eadae3fd607b117681a18c9ca976d51b4ccdd0c945bb70ffd3460468ba60180", func := "hermitcrab/hermitcrablaw04.StoreTwins", spec := "storeTwins", apart := false, narrowed := true }
def StoreTwinsUptoSaid : Prop := storeTwinsUptoRow.holds Try.pinned (OpenSpec.upto storeTwinsSpec)

/-- 'hermitcrablaw04.StoreReads', WHERE WHAT IT READS IS OF BULK AT MOST 1048576: true; the input reads as it did. -/
def storeReadsUptoRow : OpenClaim := { program := "ytfjpdcalogfhbaa", sum := "1eadae3fd607b117681a18c9ca976d51b4ccdd0c945bb70ffd3460468ba60180", func := "hermitcrab/hermitcrablaw04.StoreReads", spec := "storeReads", apart := false, narrowed := true }
def StoreReadsUptoSaid : Prop := storeReadsUptoRow.holds Try.pinned (OpenSpec.upto storeReadsSpec)

/-- 'hermitcrablaw04.StoreWords', WHERE WHAT IT READS IS OF BULK AT MOST 1048576: true; the input reads as it did. -/
def storeWordsUptoRow : OpenClaim := { program := "ytfjpdcalogfhbaa", sum := "1eadae3fd607b117681a18c9ca976d51b4ccdd0c945bb70ffd3460468ba60180", func := "hermitcrab/hermitcrablaw04.StoreWords", spec := "storeWords", apart := false, narrowed := true }
def StoreWordsUptoSaid : Prop := storeWordsUptoRow.holds Try.pinned (OpenSpec.upto storeWordsSpec)

end Rows
end Go.Proofs.Ytfjpdcalogfhbaa
