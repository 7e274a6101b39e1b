/-
  No cell of these rows narrows 'for every input' (looked for: loops, veiled, ifaces, maps, wideKeys, modest, calm, conditions, laid).
  DERIVED. THE GIVEN ROWS OF THIS SEAT. 4 by the template 'for every input the law returns true; each argument reads behind the call as it read before'; 0 by the template 'total and deterministic' (their statements: YtlbphkeiapnigaaTotals.lean).
  GIVEN WITH THE SEED: the statements are not yours to turn. If you find one false, say at which input.
  Laid BY PROGRAM, IN A SANDBOX (cutbox-rows.mjs): the forced cells as the released guide's own fill.sh prints them over the translation 90a6d31a44db007d… (all of the seat's roots in one cut). By AI agents, Wed Nov 11 2026. No macro, syntax, notation, axiom, sorry.
-/
import Derived.Test.YtlbphkeiapnigaaChecked
import GoSem.Claim
import GoSem.ClaimJoined
import GoSem.ClaimMapViews
import Derived.JoinedTies
import Derived.KernelRfl
namespace Go.Proofs.Ytlbphkeiapnigaa
/- THE CELL 'sum', in the pinned program and in every row, IS THE sha256 OF THE DUMP (.gsa) THAT YtlbphkeiapnigaaProg.lean LOADS. Nothing in Lean hashes anything: it is a label: what it is worth is what the hold of that sum in a sandbox is worth. -/
noncomputable def Try.pinned : Pinned := { name := "ytlbphkeiapnigaa", sum := "90a6d31a44db007d77a6e3095df0ce178dfc8ec967d7bc71c13766635cc7e2e5", checked := Try.checked }
namespace Rows
def none {H : Type} : Left H := { results := [], args := [] }

/-- 'hermitcrablaw14.LeaseGets': WHATEVER THE INPUT: true; the input reads as it did. -/
def leaseGetsSpec : ChangeSpec := { name := "leaseGets", fn := fun _ => fun
  | [d1, d2] => { results := [.lit (.bool true)], args := [d1, d2] }
  | _ => none }
def leaseGetsRow : OpenClaim := { program := "ytlbphkeiapnigaa", sum := "90a6d31a44db007d77a6e3095df0ce178dfc8ec967d7bc71c13766635cc7e2e5", func := "hermitcrab/hermitcrablaw14.LeaseGets", spec := "leaseGets", apart := false }
def LeaseGetsSaid : Prop := leaseGetsRow.holds Try.pinned (OpenSpec.ofChange leaseGetsSpec)

/-- ITS FALSE NEIGHBOUR: 'it returns false'. Refute it at one input. -/
def leaseGetsWrong : ChangeSpec := { name := "leaseGets", fn := fun _ => fun
  | [d1, d2] => { results := [.lit (.bool false)], args := [d1, d2] }
  | _ => none }
def LeaseGetsWrongFalsely : Prop := leaseGetsRow.holds Try.pinned (OpenSpec.ofChange leaseGetsWrong)

/-- 'hermitcrablaw14.LeaseFull': WHATEVER THE INPUT: true; the input reads as it did. -/
def leaseFullSpec : ChangeSpec := { name := "leaseFull", fn := fun _ => fun
  | [d1, d2, d3] => { results := [.lit (.bool true)], args := [d1, d2, d3] }
  | _ => none }
def leaseFullRow : OpenClaim := { program := "ytlbphkeiapnigaa", sum := "90a6d31a44db007d77a6e3095df0ce178dfc8ec967d7bc71c13766635cc7e2e5", func := "hermitcrab/hermitcrablaw14.LeaseFull", spec := "leaseFull", apart := false }
def LeaseFullSaid : Prop := leaseFullRow.holds Try.pinned (OpenSpec.ofChange leaseFullSpec)

/-- ITS FALSE NEIGHBOUR: 'it returns false'. Refute it at one input. -/
def leaseFullWrong : ChangeSpec := { name := "leaseFull", fn := fun _ => fun
  | [d1, d2, d3] => { results := [.lit (.bool false)], args := [d1, d2, d3] }
  | _ => none }
def LeaseFullWrongFalsely : Prop := leaseFullRow.holds Try.pinned (OpenSpec.ofChange leaseFullWrong)

/-- 'hermitcrablaw14.LeaseBack': WHATEVER THE INPUT: true; the input reads as it did. -/
def leaseBackSpec : ChangeSpec := { name := "leaseBack", fn := fun _ => fun
  | [d1, d2, d3, d4, d5, d6] => { results := [.lit (.bool true)], args := [d1, d2, d3, d4, d5, d6] }
  | _ => none }
def leaseBackRow : OpenClaim := { program := "ytlbphkeiapnigaa", sum := "90a6d31a44db007d77a6e3095df0ce178dfc8ec967d7bc71c13766635cc7e2e5", func := "hermitcrab/hermitcrablaw14.LeaseBack", spec := "leaseBack", apart := false }
def LeaseBackSaid : Prop := leaseBackRow.holds Try.pinned (OpenSpec.ofChange leaseBackSpec)

/-- ITS FALSE NEIGHBOUR: 'it returns false'. Refute it at one input. -/
def leaseBackWrong : ChangeSpec := { name := "leaseBack", fn := fun _ => fun
  | [d1, d2, d3, d4, d5, d6] => { results := [.lit (.bool false)], args := [d1, d2, d3, d4, d5, d6] }
  | _ => none }
def LeaseBackWrongFalsely : Prop := leaseBackRow.holds Try.pinned (OpenSpec.ofChange leaseBackWrong)

/-- 'hermitcrablaw14.LeasePlays': WHATEVER THE INPUT: true; the input reads as it did. -/
def leasePlaysSpec : ChangeSpec := { name := "leasePlays", fn := fun _ => fun
  | [d] => { results := [.lit (.bool true)], args := [d] }
  | _ => none }
def leasePlaysRow : OpenClaim := { program := "ytlbphkeiapnigaa", sum := "90a6d31a44db007d77a6e3095df0ce178dfc8ec967d7bc71c13766635cc7e2e5", func := "hermitcrab/hermitcrablaw14.LeasePlays", spec := "leasePlays", apart := false }
def LeasePlaysSaid : Prop := leasePlaysRow.holds Try.pinned (OpenSpec.ofChange leasePlaysSpec)

/-- ITS FALSE NEIGHBOUR: 'it returns false'. Refute it at one input. -/
def leasePlaysWrong : ChangeSpec := { name := "leasePlays", fn := fun _ => fun
  | [d] => { results := [.lit (.bool false)], args := [d] }
  | _ => none }
def LeasePlaysWrongFalsely : Prop := leasePlaysRow.holds Try.pinned (OpenSpec.ofChange leasePlaysWrong)

/- THE SECOND FORM. 'bulk': how many values and letters a reading holds, each counted each time it is reached (what is shared counts as often as it is met; a slice's spare places count too). A statement '..UptoSaid' is the law's where the arguments, and the package variables that the reading takes, are together of bulk at most 1048576: NARROWER than '..Said'. Prove '..Said' where nothing that the law and all that it calls make is longer than what came in: it says more and counts as full. Else prove '..UptoSaid'. A law counts once. -/
mutual
def uptoBulk {H : Type} : DataW H → Nat
  | .lit (.string bytes) => bytes.length + 1
  | .lit _ => 1
  | .nil => 1
  | .ptr d => uptoBulk d + 1
  | .slice elems spare => uptoBulkAll elems + uptoBulkAll spare + 1
  | .agg parts => uptoBulkAll parts + 1
  | .iface _ d => uptoBulk d + 1
  | .map entries => uptoBulkEntries entries + 1
  | .held _ => 1
def uptoBulkAll {H : Type} : List (DataW H) → Nat
  | [] => 0
  | d :: r => uptoBulk d + uptoBulkAll r
def uptoBulkEntries {H : Type} : List (Lit × DataW H) → Nat
  | [] => 0
  | x :: r => uptoBulkEntry x + uptoBulkEntries r
def uptoBulkEntry {H : Type} : Lit × DataW H → Nat
  | (.string bytes, d) => bytes.length + uptoBulk d + 1
  | (_, d) => uptoBulk d + 1
 end
def uptoSmall : (H : Type) → List (DataW H) → Bool := fun _ ds => decide (uptoBulkAll ds ≤ 1048576)
def OpenSpec.upto (s : _root_.Go.ChangeSpec) : _root_.Go.OpenSpec := { _root_.Go.OpenSpec.ofChange s with cond := some uptoSmall }

/-- 'hermitcrablaw14.LeaseGets', WHERE WHAT IT READS IS OF BULK AT MOST 1048576: true; the input reads as it did. -/
def leaseGetsUptoRow : OpenClaim := { program := "ytlbphkeiapnigaa", sum := "90a6d31a44db007d77a6e3095df0ce178dfc8ec967d7bc71c13766635cc7e2e5", func := "hermitcrab/hermitcrablaw14.LeaseGets", spec := "leaseGets", apart := false, narrowed := true }
def LeaseGetsUptoSaid : Prop := leaseGetsUptoRow.holds Try.pinned (OpenSpec.upto leaseGetsSpec)

/-- 'hermitcrablaw14.LeaseFull', WHERE WHAT IT READS IS OF BULK AT MOST 1048576: true; the input reads as it did. -/
def leaseFullUptoRow : OpenClaim := { program := "ytlbphkeiapnigaa", sum := "90a6d31a44db007d77a6e3095df0ce178dfc8ec967d7bc71c13766635cc7e2e5", func := "hermitcrab/hermitcrablaw14.LeaseFull", spec := "leaseFull", apart := false, narrowed := true }
def LeaseFullUptoSaid : Prop := leaseFullUptoRow.holds Try.pinned (OpenSpec.upto leaseFullSpec)

/-- 'hermitcrablaw14.LeaseBack', WHERE WHAT IT READS IS OF BULK AT MOST 1048576: true; the input reads as it did. -/
def leaseBackUptoRow : OpenClaim := { program := "ytlbphkeiapnigaa", sum := "90a6d31a44db007d77a6e3095df0ce178dfc8ec967d7bc71c13766635cc7e2e5", func := "hermitcrab/hermitcrablaw14.LeaseBack", spec := "leaseBack", apart := false, narrowed := true }
def LeaseBackUptoSaid : Prop := leaseBackUptoRow.holds Try.pinned (OpenSpec.upto leaseBackSpec)

/-- 'hermitcrablaw14.LeasePlays', WHERE WHAT IT READS IS OF BULK AT MOST 1048576: true; the input reads as it did. -/
def leasePlaysUptoRow : OpenClaim := { program := "ytlbphkeiapnigaa", sum := "90a6d31a44db007d77a6e3095df0ce178dfc8ec967d7bc71c13766635cc7e2e5", func := "hermitcrab/hermitcrablaw14.LeasePlays", spec := "leasePlays", apart := false, narrowed := true }
def LeasePlaysUptoSaid : Prop := leasePlaysUptoRow.holds Try.pinned (OpenSpec.upto leasePlaysSpec)

end Rows
end Go.Proofs.Ytlbphkeiapnigaa
