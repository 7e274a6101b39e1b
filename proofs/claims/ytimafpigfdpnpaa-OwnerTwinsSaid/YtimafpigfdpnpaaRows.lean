/-
  No cell of these rows narrows 'for every input' (looked for: loops, veiled, ifaces, maps, wideKeys, modest, calm, conditions, laid).
  DERIVED. THE GIVEN ROWS OF THIS SEAT. 4 by the template 'for every input the law returns true; each argument reads behind the call as it read before'; 0 by the template 'total and deterministic' (their statements: YtimafpigfdpnpaaTotals.lean).
  GIVEN WITH THE SEED: the statements are not yours to turn. If you find one false, say at which input.
  Laid BY PROGRAM, IN A SANDBOX (cutbox-rows.mjs): the forced cells as the released guide's own fill.sh prints them over the translation 7f9f40eda3f220ae… (all of the seat's roots in one cut). By AI agents, Wed Nov 11 2026. No macro, syntax, notation, axiom, sorry.
-/
import Derived.Test.YtimafpigfdpnpaaChecked
import GoSem.Claim
import GoSem.ClaimJoined
import GoSem.ClaimMapViews
import Derived.JoinedTies
import Derived.KernelRfl
namespace Go.Proofs.Ytimafpigfdpnpaa
/- THE CELL 'sum', in the pinned program and in every row, IS THE sha256 OF THE DUMP (.gsa) THAT YtimafpigfdpnpaaProg.lean LOADS. Nothing in Lean hashes anything: it is a label: what it is worth is what the hold of that sum in a sandbox is worth. -/
noncomputable def Try.pinned : Pinned := { name := "ytimafpigfdpnpaa", sum := "7f9f40eda3f220ae9825766c4ed8a2f366d27a7d79a11a3c5ff290b1c2583d98", checked := Try.checked }
namespace Rows
def none {H : Type} : Left H := { results := [], args := [] }

/-- 'hermitcrablaw08.OwnerShares': WHATEVER THE INPUT: true; the input reads as it did. -/
def ownerSharesSpec : ChangeSpec := { name := "ownerShares", fn := fun _ => fun
  | [d1, d2, d3, d4] => { results := [.lit (.bool true)], args := [d1, d2, d3, d4] }
  | _ => none }
def ownerSharesRow : OpenClaim := { program := "ytimafpigfdpnpaa", sum := "7f9f40eda3f220ae9825766c4ed8a2f366d27a7d79a11a3c5ff290b1c2583d98", func := "hermitcrab/hermitcrablaw08.OwnerShares", spec := "ownerShares", apart := false }
def OwnerSharesSaid : Prop := ownerSharesRow.holds Try.pinned (OpenSpec.ofChange ownerSharesSpec)

/-- ITS FALSE NEIGHBOUR: 'it returns false'. Refute it at one input. -/
def ownerSharesWrong : ChangeSpec := { name := "ownerShares", fn := fun _ => fun
  | [d1, d2, d3, d4] => { results := [.lit (.bool false)], args := [d1, d2, d3, d4] }
  | _ => none }
def OwnerSharesWrongFalsely : Prop := ownerSharesRow.holds Try.pinned (OpenSpec.ofChange ownerSharesWrong)

/-- 'hermitcrablaw08.OwnerTwins': WHATEVER THE INPUT: true; the input reads as it did. -/
def ownerTwinsSpec : ChangeSpec := { name := "ownerTwins", fn := fun _ => fun
  | [d1, d2] => { results := [.lit (.bool true)], args := [d1, d2] }
  | _ => none }
def ownerTwinsRow : OpenClaim := { program := "ytimafpigfdpnpaa", sum := "7f9f40eda3f220ae9825766c4ed8a2f366d27a7d79a11a3c5ff290b1c2583d98", func := "hermitcrab/hermitcrablaw08.OwnerTwins", spec := "ownerTwins", apart := false }
def OwnerTwinsSaid : Prop := ownerTwinsRow.holds Try.pinned (OpenSpec.ofChange ownerTwinsSpec)

/-- ITS FALSE NEIGHBOUR: 'it returns false'. Refute it at one input. -/
def ownerTwinsWrong : ChangeSpec := { name := "ownerTwins", fn := fun _ => fun
  | [d1, d2] => { results := [.lit (.bool false)], args := [d1, d2] }
  | _ => none }
def OwnerTwinsWrongFalsely : Prop := ownerTwinsRow.holds Try.pinned (OpenSpec.ofChange ownerTwinsWrong)

/-- 'hermitcrablaw08.OwnerOnce': WHATEVER THE INPUT: true; the input reads as it did. -/
def ownerOnceSpec : ChangeSpec := { name := "ownerOnce", fn := fun _ => fun
  | [d1, d2, d3, d4, d5] => { results := [.lit (.bool true)], args := [d1, d2, d3, d4, d5] }
  | _ => none }
def ownerOnceRow : OpenClaim := { program := "ytimafpigfdpnpaa", sum := "7f9f40eda3f220ae9825766c4ed8a2f366d27a7d79a11a3c5ff290b1c2583d98", func := "hermitcrab/hermitcrablaw08.OwnerOnce", spec := "ownerOnce", apart := false }
def OwnerOnceSaid : Prop := ownerOnceRow.holds Try.pinned (OpenSpec.ofChange ownerOnceSpec)

/-- ITS FALSE NEIGHBOUR: 'it returns false'. Refute it at one input. -/
def ownerOnceWrong : ChangeSpec := { name := "ownerOnce", fn := fun _ => fun
  | [d1, d2, d3, d4, d5] => { results := [.lit (.bool false)], args := [d1, d2, d3, d4, d5] }
  | _ => none }
def OwnerOnceWrongFalsely : Prop := ownerOnceRow.holds Try.pinned (OpenSpec.ofChange ownerOnceWrong)

/-- 'hermitcrablaw08.OwnerNil': WHATEVER THE INPUT: true; the input reads as it did. -/
def ownerNilSpec : ChangeSpec := { name := "ownerNil", fn := fun _ => fun
  | [d1, d2, d3] => { results := [.lit (.bool true)], args := [d1, d2, d3] }
  | _ => none }
def ownerNilRow : OpenClaim := { program := "ytimafpigfdpnpaa", sum := "7f9f40eda3f220ae9825766c4ed8a2f366d27a7d79a11a3c5ff290b1c2583d98", func := "hermitcrab/hermitcrablaw08.OwnerNil", spec := "ownerNil", apart := false }
def OwnerNilSaid : Prop := ownerNilRow.holds Try.pinned (OpenSpec.ofChange ownerNilSpec)

/-- ITS FALSE NEIGHBOUR: 'it returns false'. Refute it at one input. -/
def ownerNilWrong : ChangeSpec := { name := "ownerNil", fn := fun _ => fun
  | [d1, d2, d3] => { results := [.lit (.bool false)], args := [d1, d2, d3] }
  | _ => none }
def OwnerNilWrongFalsely : Prop := ownerNilRow.holds Try.pinned (OpenSpec.ofChange ownerNilWrong)

/- THE SECOND FORM. 'bulk': how many values and letters a reading holds, each counted each time it is reached (what is shared counts as often as it is met; a slice's spare places count too). A statement '..UptoSaid' is the law's where the arguments, and the package variables that the reading takes, are together of bulk at most 1048576: NARROWER than '..Said'. Prove '..Said' where nothing that the law and all that it calls make is longer than what came in: it says more and counts as full. Else prove '..UptoSaid'. A law counts once. -/
mutual
def uptoBulk {H : Type} : DataW H → Nat
  | .lit (.string bytes) => bytes.length + 1
  | .lit _ => 1
  | .nil => 1
  | .ptr d => uptoBulk d + 1
  | .slice elems spare => uptoBulkAll elems + uptoBulkAll spare + 1
  | .agg parts => uptoBulkAll parts + 1
  | .iface _ d => uptoBulk d + 1
  | .map entries => uptoBulkEntries entries + 1
  | .held _ => 1
def uptoBulkAll {H : Type} : List (DataW H) → Nat
  | [] => 0
  | d :: r => uptoBulk d + uptoBulkAll r
def uptoBulkEntries {H : Type} : List (Lit × DataW H) → Nat
  | [] => 0
  | x :: r => uptoBulkEntry x + uptoBulkEntries r
def uptoBulkEntry {H : Type} : Lit × DataW H → Nat
  | (.string bytes, d) => bytes.length + uptoBulk d + 1
  | (_, d) => uptoBulk d + 1
 end
def uptoSmall : (H : Type) → List (DataW H) → Bool := fun _ ds => decide (uptoBulkAll ds ≤ 1048576)
def OpenSpec.upto (s : _root_.Go.ChangeSpec) : _root_.Go.OpenSpec := { _root_.Go.OpenSpec.ofChange s with cond := some uptoSmall }

/-- 'hermitcrablaw08.OwnerShares', WHERE WHAT IT READS IS OF BULK AT MOST 1048576: true; the input reads as it did. -/
def ownerSharesUptoRow : OpenClaim := { program := "ytimafpigfdpnpaa", sum := "7f9f40eda3f220ae9825766c4ed8a2f366d27a7d79a11a3c5ff290b1c2583d98", func := "hermitcrab/hermitcrablaw08.OwnerShares", spec := "ownerShares", apart := false, narrowed := true }
def OwnerSharesUptoSaid : Prop := ownerSharesUptoRow.holds Try.pinned (OpenSpec.upto ownerSharesSpec)

/-- 'hermitcrablaw08.OwnerTwins', WHERE WHAT IT READS IS OF BULK AT MOST 1048576: true; the input reads as it did. -/
def ownerTwinsUptoRow : OpenClaim := { program := "ytimafpigfdpnpaa", sum := "7f9f40eda3f220ae9825766c4ed8a2f366d27a7d79a11a3c5ff290b1c2583d98", func := "hermitcrab/hermitcrablaw08.OwnerTwins", spec := "ownerTwins", apart := false, narrowed := true }
def OwnerTwinsUptoSaid : Prop := ownerTwinsUptoRow.holds Try.pinned (OpenSpec.upto ownerTwinsSpec)

/-- 'hermitcrablaw08.OwnerOnce', WHERE WHAT IT READS IS OF BULK AT MOST 1048576: true; the input reads as it did. -/
def ownerOnceUptoRow : OpenClaim := { program := "ytimafpigfdpnpaa", sum := "7f9f40eda3f220ae9825766c4ed8a2f366d27a7d79a11a3c5ff290b1c2583d98", func := "hermitcrab/hermitcrablaw08.OwnerOnce", spec := "ownerOnce", apart := false, narrowed := true }
def OwnerOnceUptoSaid : Prop := ownerOnceUptoRow.holds Try.pinned (OpenSpec.upto ownerOnceSpec)

/-- 'hermitcrablaw08.OwnerNil', WHERE WHAT IT READS IS OF BULK AT MOST 1048576: true; the input reads as it did. -/
def ownerNilUptoRow : OpenClaim := { program := "ytimafpigfdpnpaa", sum := "7f9f40eda3f220ae9825766c4ed8a2f366d27a7d79a11a3c5ff290b1c2583d98", func := "hermitcrab/hermitcrablaw08.OwnerNil", spec := "ownerNil", apart := false, narrowed := true }
def OwnerNilUptoSaid : Prop := ownerNilUptoRow.holds Try.pinned (OpenSpec.upto ownerNilSpec)

end Rows
end Go.Proofs.Ytimafpigfdpnpaa
