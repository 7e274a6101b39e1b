/-
  No cell of these rows narrows 'for every input' (looked for: loops, veiled, ifaces, maps, wideKeys, modest, calm, conditions, laid).
  DERIVED. THE GIVEN ROWS OF THIS SEAT. 6 by the template 'for every input the law returns true; each argument reads behind the call as it read before'; 0 by the template 'total and deterministic' (their statements: YthgccppclkkohaaTotals.lean).
  GIVEN WITH THE SEED: the statements are not yours to turn. If you find one false, say at which input.
  Laid BY PROGRAM, IN A SANDBOX (cutbox-rows.mjs): the forced cells as the released guide's own fill.sh prints them over the translation e5bb59a0b28fdeae… (all of the seat's roots in one cut). By AI agents, Wed Nov 11 2026. No macro, syntax, notation, axiom, sorry.
-/
import Derived.Test.YthgccppclkkohaaChecked
import GoSem.Claim
import GoSem.ClaimJoined
import GoSem.ClaimMapViews
import Derived.JoinedTies
import Derived.KernelRfl
namespace Go.Proofs.Ythgccppclkkohaa
/- THE CELL 'sum', in the pinned program and in every row, IS THE sha256 OF THE DUMP (.gsa) THAT YthgccppclkkohaaProg.lean LOADS. Nothing in Lean hashes anything: it is a label: what it is worth is what the hold of that sum in a sandbox is worth. -/
noncomputable def Try.pinned : Pinned := { name := "ythgccppclkkohaa", sum := "e5bb59a0b28fdeaeec88632b6019a8fabc461145a3920b4504a5bc72a67e2e98", checked := Try.checked }
namespace Rows
def none {H : Type} : Left H := { results := [], args := [] }

/-- 'hermitcrablaw11.SeatTraps': WHATEVER THE INPUT: true; the input reads as it did. -/
def seatTrapsSpec : ChangeSpec := { name := "seatTraps", fn := fun _ => fun
  | [d1, d2, d3] => { results := [.lit (.bool true)], args := [d1, d2, d3] }
  | _ => none }
def seatTrapsRow : OpenClaim := { program := "ythgccppclkkohaa", sum := "e5bb59a0b28fdeaeec88632b6019a8fabc461145a3920b4504a5bc72a67e2e98", func := "hermitcrab/hermitcrablaw11.SeatTraps", spec := "seatTraps", apart := false }
def SeatTrapsSaid : Prop := seatTrapsRow.holds Try.pinned (OpenSpec.ofChange seatTrapsSpec)

/-- ITS FALSE NEIGHBOUR: 'it returns false'. Refute it at one input. -/
def seatTrapsWrong : ChangeSpec := { name := "seatTraps", fn := fun _ => fun
  | [d1, d2, d3] => { results := [.lit (.bool false)], args := [d1, d2, d3] }
  | _ => none }
def SeatTrapsWrongFalsely : Prop := seatTrapsRow.holds Try.pinned (OpenSpec.ofChange seatTrapsWrong)

/-- 'hermitcrablaw11.SeatKeeps': WHATEVER THE INPUT: true; the input reads as it did. -/
def seatKeepsSpec : ChangeSpec := { name := "seatKeeps", fn := fun _ => fun
  | [d1, d2, d3] => { results := [.lit (.bool true)], args := [d1, d2, d3] }
  | _ => none }
def seatKeepsRow : OpenClaim := { program := "ythgccppclkkohaa", sum := "e5bb59a0b28fdeaeec88632b6019a8fabc461145a3920b4504a5bc72a67e2e98", func := "hermitcrab/hermitcrablaw11.SeatKeeps", spec := "seatKeeps", apart := false }
def SeatKeepsSaid : Prop := seatKeepsRow.holds Try.pinned (OpenSpec.ofChange seatKeepsSpec)

/-- ITS FALSE NEIGHBOUR: 'it returns false'. Refute it at one input. -/
def seatKeepsWrong : ChangeSpec := { name := "seatKeeps", fn := fun _ => fun
  | [d1, d2, d3] => { results := [.lit (.bool false)], args := [d1, d2, d3] }
  | _ => none }
def SeatKeepsWrongFalsely : Prop := seatKeepsRow.holds Try.pinned (OpenSpec.ofChange seatKeepsWrong)

/-- 'hermitcrablaw11.SeatWords': WHATEVER THE INPUT: true; the input reads as it did. -/
def seatWordsSpec : ChangeSpec := { name := "seatWords", fn := fun _ => fun
  | [d] => { results := [.lit (.bool true)], args := [d] }
  | _ => none }
def seatWordsRow : OpenClaim := { program := "ythgccppclkkohaa", sum := "e5bb59a0b28fdeaeec88632b6019a8fabc461145a3920b4504a5bc72a67e2e98", func := "hermitcrab/hermitcrablaw11.SeatWords", spec := "seatWords", apart := false }
def SeatWordsSaid : Prop := seatWordsRow.holds Try.pinned (OpenSpec.ofChange seatWordsSpec)

/-- ITS FALSE NEIGHBOUR: 'it returns false'. Refute it at one input. -/
def seatWordsWrong : ChangeSpec := { name := "seatWords", fn := fun _ => fun
  | [d] => { results := [.lit (.bool false)], args := [d] }
  | _ => none }
def SeatWordsWrongFalsely : Prop := seatWordsRow.holds Try.pinned (OpenSpec.ofChange seatWordsWrong)

/-- 'hermitcrablaw11.SeatReads': WHATEVER THE INPUT: true; the input reads as it did. -/
def seatReadsSpec : ChangeSpec := { name := "seatReads", fn := fun _ => fun
  | [d1, d2, d3, d4] => { results := [.lit (.bool true)], args := [d1, d2, d3, d4] }
  | _ => none }
def seatReadsRow : OpenClaim := { program := "ythgccppclkkohaa", sum := "e5bb59a0b28fdeaeec88632b6019a8fabc461145a3920b4504a5bc72a67e2e98", func := "hermitcrab/hermitcrablaw11.SeatReads", spec := "seatReads", apart := false }
def SeatReadsSaid : Prop := seatReadsRow.holds Try.pinned (OpenSpec.ofChange seatReadsSpec)

/-- ITS FALSE NEIGHBOUR: 'it returns false'. Refute it at one input. -/
def seatReadsWrong : ChangeSpec := { name := "seatReads", fn := fun _ => fun
  | [d1, d2, d3, d4] => { results := [.lit (.bool false)], args := [d1, d2, d3, d4] }
  | _ => none }
def SeatReadsWrongFalsely : Prop := seatReadsRow.holds Try.pinned (OpenSpec.ofChange seatReadsWrong)

/-- 'hermitcrablaw11.SeatApart': WHATEVER THE INPUT: true; the input reads as it did. -/
def seatApartSpec : ChangeSpec := { name := "seatApart", fn := fun _ => fun
  | [d1, d2, d3] => { results := [.lit (.bool true)], args := [d1, d2, d3] }
  | _ => none }
def seatApartRow : OpenClaim := { program := "ythgccppclkkohaa", sum := "e5bb59a0b28fdeaeec88632b6019a8fabc461145a3920b4504a5bc72a67e2e98", func := "hermitcrab/hermitcrablaw11.SeatApart", spec := "seatApart", apart := false }
def SeatApartSaid : Prop := seatApartRow.holds Try.pinned (OpenSpec.ofChange seatApartSpec)

/-- ITS FALSE NEIGHBOUR: 'it returns false'. Refute it at one input. -/
def seatApartWrong : ChangeSpec := { name := "seatApart", fn := fun _ => fun
  | [d1, d2, d3] => { results := [.lit (.bool false)], args := [d1, d2, d3] }
  | _ => none }
def SeatApartWrongFalsely : Prop := seatApartRow.holds Try.pinned (OpenSpec.ofChange seatApartWrong)

/-- 'hermitcrablaw11.SeatRegisters': WHATEVER THE INPUT: true; the input reads as it did. -/
def seatRegistersSpec : ChangeSpec := { name := "seatRegisters", fn := fun _ => fun
  | [d1, d2, d3, d4, d5] => { results := [.lit (.bool true)], args := [d1, d2, d3, d4, d5] }
  | _ => none }
def seatRegistersRow : OpenClaim := { program := "ythgccppclkkohaa", sum := "e5bb59a0b28fdeaeec88632b6019a8fabc461145a3920b4504a5bc72a67e2e98", func := "hermitcrab/hermitcrablaw11.SeatRegisters", spec := "seatRegisters", apart := false }
def SeatRegistersSaid : Prop := seatRegistersRow.holds Try.pinned (OpenSpec.ofChange seatRegistersSpec)

/-- ITS FALSE NEIGHBOUR: 'it returns false'. Refute it at one input. -/
def seatRegistersWrong : ChangeSpec := { name := "seatRegisters", fn := fun _ => fun
  | [d1, d2, d3, d4, d5] => { results := [.lit (.bool false)], args := [d1, d2, d3, d4, d5] }
  | _ => none }
def SeatRegistersWrongFalsely : Prop := seatRegistersRow.holds Try.pinned (OpenSpec.ofChange seatRegistersWrong)

/- THE SECOND FORM. 'bulk': how many values and letters a reading holds, each counted each time it is reached (what is shared counts as often as it is met; a slice's spare places count too). A statement '..UptoSaid' is the law's where the arguments, and the package variables that the reading takes, are together of bulk at most 1048576: NARROWER than '..Said'. Prove '..Said' where nothing that the law and all that it calls make is longer than what came in: it says more and counts as full. Else prove '..UptoSaid'. A law counts once. -/
mutual
def uptoBulk {H : Type} : DataW H → Nat
  | .lit (.string bytes) => bytes.length + 1
  | .lit _ => 1
  | .nil => 1
  | .ptr d => uptoBulk d + 1
  | .slice elems spare => uptoBulkAll elems + uptoBulkAll spare + 1
  | .agg parts => uptoBulkAll parts + 1
  | .iface _ d => uptoBulk d + 1
  | .map entries => uptoBulkEntries entries + 1
  | .held _ => 1
def uptoBulkAll {H : Type} : List (DataW H) → Nat
  | [] => 0
  | d :: r => uptoBulk d + uptoBulkAll r
def uptoBulkEntries {H : Type} : List (Lit × DataW H) → Nat
  | [] => 0
  | x :: r => uptoBulkEntry x + uptoBulkEntries r
def uptoBulkEntry {H : Type} : Lit × DataW H → Nat
  | (.string bytes, d) => bytes.length + uptoBulk d + 1
  | (_, d) => uptoBulk d + 1
 end
def uptoSmall : (H : Type) → List (DataW H) → Bool := fun _ ds => decide (uptoBulkAll ds ≤ 1048576)
def OpenSpec.upto (s : _root_.Go.ChangeSpec) : _root_.Go.OpenSpec := { _root_.Go.OpenSpec.ofChange s with cond := some uptoSmall }

/-- 'hermitcrablaw11.SeatTraps', WHERE WHAT IT READS IS OF BULK AT MOST 1048576: true; the input reads as it did. -/
def seatTrapsUptoRow : OpenClaim := { program := "ythgccppclkkohaa", sum := "e5bb59a0b28fdeaeec88632b6019a8fabc461145a3920b4504a5bc72a67e2e98", func := "hermitcrab/hermitcrablaw11.SeatTraps", spec := "seatTraps", apart := false, narrowed := true }
def SeatTrapsUptoSaid : Prop := seatTrapsUptoRow.holds Try.pinned (OpenSpec.upto seatTrapsSpec)

/-- 'hermitcrablaw11.SeatKeeps', WHERE WHAT IT READS IS OF BULK AT MOST 1048576: true; the input reads as it did. -/
def seatKeepsUptoRow : OpenClaim := { program := "ythgccppclkkohaa", sum := "e5bb59a0b28fdeaeec88632b6019a8fabc461145a3920b4504a5bc72a67e2e98", func := "hermitcrab/hermitcrablaw11.SeatKeeps", spec := "seatKeeps", apart := false, narrowed := true }
def SeatKeepsUptoSaid : Prop := seatKeepsUptoRow.holds Try.pinned (OpenSpec.upto seatKeepsSpec)

/-- 'hermitcrablaw11.SeatWords', WHERE WHAT IT READS IS OF BULK AT MOST 1048576: true; the input reads as it did. -/
def seatWordsUptoRow : OpenClaim := { program := "ythgccppclkkohaa", sum := "e5bb59a0b28fdeaeec88632b6019a8fabc461145a3920b4504a5bc72a67e2e98", func := "hermitcrab/hermitcrablaw11.SeatWords", spec := "seatWords", apart := false, narrowed := true }
def SeatWordsUptoSaid : Prop := seatWordsUptoRow.holds Try.pinned (OpenSpec.upto seatWordsSpec)

/-- 'hermitcrablaw11.SeatReads', WHERE WHAT IT READS IS OF BULK AT MOST 1048576: true; the input reads as it did. -/
def seatReadsUptoRow : OpenClaim := { program := "ythgccppclkkohaa", sum := "e5bb59a0b28fdeaeec88632b6019a8fabc461145a3920b4504a5bc72a67e2e98", func := "hermitcrab/hermitcrablaw11.SeatReads", spec := "seatReads", apart := false, narrowed := true }
def SeatReadsUptoSaid : Prop := seatReadsUptoRow.holds Try.pinned (OpenSpec.upto seatReadsSpec)

/-- 'hermitcrablaw11.SeatApart', WHERE WHAT IT READS IS OF BULK AT MOST 1048576: true; the input reads as it did. -/
def seatApartUptoRow : OpenClaim := { program := "ythgccppclkkohaa", sum := "e5bb59a0b28fdeaeec88632b6019a8fabc461145a3920b4504a5bc72a67e2e98", func := "hermitcrab/hermitcrablaw11.SeatApart", spec := "seatApart", apart := false, narrowed := true }
def SeatApartUptoSaid : Prop := seatApartUptoRow.holds Try.pinned (OpenSpec.upto seatApartSpec)

/-- 'hermitcrablaw11.SeatRegisters', WHERE WHAT IT READS IS OF BULK AT MOST 1048576: true; the input reads as it did. -/
def seatRegistersUptoRow : OpenClaim := { program := "ythgccppclkkohaa", sum := "e5bb59a0b28fdeaeec88632b6019a8fabc461145a3920b4504a5bc72a67e2e98", func := "hermitcrab/hermitcrablaw11.SeatRegisters", spec := "seatRegisters", apart := false, narrowed := true }
def SeatRegistersUptoSaid : Prop := seatRegistersUptoRow.holds Try.pinned (OpenSpec.upto seatRegistersSpec)

end Rows
end Go.Proofs.Ythgccppclkkohaa
