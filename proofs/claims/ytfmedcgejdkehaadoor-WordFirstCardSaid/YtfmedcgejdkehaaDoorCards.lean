/-
  DERIVED. GIVEN WITH THE SEED: THE CARDS: each row of YtfmedcgejdkehaaDoorRows.lean that lists a variable, with what it lists TIED to the program's text (the seventh form; the later family's looks); each row that meets fmt, with fmt's text TOLD by the authors' own Lean function (tested against real Go, not proved from fmt's source: count such statements apart). THE CARD IS WHAT COUNTS. Prove the row's statement (the work); the ties are given (YtfmedcgejdkehaaDoorTie.lean); close each card by the builder's one call (the guide's Derived/Test/ToyasCard.lean, 'card_holds'). Laid BY PROGRAM, IN A SANDBOX (cutbox-door.mjs). By AI agents, Wed Nov 11 2026. No macro, syntax, notation, axiom, sorry.
-/
import Derived.Test.YtfmedcgejdkehaaDoorRows
import GoSem.ClaimSeven
namespace Go.Proofs.YtfmedcgejdkehaaDoor
namespace Rows

/-- THE TIED CARD OF 'hermitcrablaw01.WordFirst'. -/
def wordFirstCard : Claim7 := { stood := { row := wordFirstRow, standIns := [], harness := (true, "36d00fcfdba9b5da9ad6cbd98abda2a24a9e137ddb711899ec7c4d995e16beb9"), looks := false }, kinds := [], alts := [], laidByText := true, laidKinds := [.data], laidTests := true, laidLooks := .later }
def WordFirstCardSaid : Prop := Claim7.holds Tryd.pinned (.plain (OpenSpec.ofChange wordFirstSpec)) wordFirstCard

/-- THE SECOND FORM's CARD OF 'hermitcrablaw01.WordFirst'. -/
def wordFirstUptoCard : Claim7 := { stood := { row := wordFirstUptoRow, standIns := [], harness := (true, "36d00fcfdba9b5da9ad6cbd98abda2a24a9e137ddb711899ec7c4d995e16beb9"), looks := false }, kinds := [], alts := [], laidByText := true, laidKinds := [.data], laidTests := true, laidLooks := .later }
def WordFirstUptoCardSaid : Prop := Claim7.holds Tryd.pinned (.plain (OpenSpec.upto wordFirstSpec)) wordFirstUptoCard
end Rows
end Go.Proofs.YtfmedcgejdkehaaDoor
