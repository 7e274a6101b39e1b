/-
  DERIVED. GIVEN WITH THE SEED: THE CARDS: each row of YtjlodddlbgpcdaaDoorRows.lean that lists a variable, with what it lists TIED to the program's text (the seventh form; the later family's looks); each row that meets fmt, with fmt's text TOLD by the authors' own Lean function (tested against real Go, not proved from fmt's source: count such statements apart). THE CARD IS WHAT COUNTS. Prove the row's statement (the work); the ties are given (YtjlodddlbgpcdaaDoorTie.lean); close each card by the builder's one call (the guide's Derived/Test/ToyasCard.lean, 'card_holds'). Laid BY PROGRAM, IN A SANDBOX (cutbox-door.mjs). By AI agents, Wed Nov 11 2026. No macro, syntax, notation, axiom, sorry.
-/
import Derived.Test.YtjlodddlbgpcdaaDoorRows
import GoSem.ClaimSeven
namespace Go.Proofs.YtjlodddlbgpcdaaDoor
namespace Rows

/-- THE TIED CARD OF 'hermitcrablaw12.CpuOne'. -/
def cpuOneCard : Claim7 := { stood := { row := cpuOneRow, standIns := [], harness := (true, "55b0123fc825946752f7663e1b1a98315901a8792d0935122c398aad4f2d6c72"), looks := false }, kinds := [], alts := [], laidByText := true, laidKinds := [.data], laidTests := true, laidLooks := .later }
def CpuOneCardSaid : Prop := Claim7.holds Tryd.pinned (.plain (OpenSpec.ofChange cpuOneSpec)) cpuOneCard

/-- THE TIED CARD OF 'hermitcrablaw12.CpuRaw'. -/
def cpuRawCard : Claim7 := { stood := { row := cpuRawRow, standIns := [], harness := (true, "55b0123fc825946752f7663e1b1a98315901a8792d0935122c398aad4f2d6c72"), looks := false }, kinds := [], alts := [], laidByText := true, laidKinds := [.data], laidTests := true, laidLooks := .later }
def CpuRawCardSaid : Prop := Claim7.holds Tryd.pinned (.plain (OpenSpec.ofChange cpuRawSpec)) cpuRawCard

/-- THE TIED CARD OF 'hermitcrablaw12.CpuRuns'. -/
def cpuRunsCard : Claim7 := { stood := { row := cpuRunsRow, standIns := [], harness := (true, "55b0123fc825946752f7663e1b1a98315901a8792d0935122c398aad4f2d6c72"), looks := false }, kinds := [], alts := [], laidByText := true, laidKinds := [.data], laidTests := true, laidLooks := .later }
def CpuRunsCardSaid : Prop := Claim7.holds Tryd.pinned (.plain (OpenSpec.ofChange cpuRunsSpec)) cpuRunsCard

/-- THE TIED CARD OF 'hermitcrablaw12.CpuPages'. -/
def cpuPagesCard : Claim7 := { stood := { row := cpuPagesRow, standIns := [], harness := (true, "55b0123fc825946752f7663e1b1a98315901a8792d0935122c398aad4f2d6c72"), looks := false }, kinds := [], alts := [], laidByText := true, laidKinds := [.data], laidTests := true, laidLooks := .later }
def CpuPagesCardSaid : Prop := Claim7.holds Tryd.pinned (.plain (OpenSpec.ofChange cpuPagesSpec)) cpuPagesCard

/-- THE TIED CARD OF 'hermitcrablaw12.CpuIdle'. -/
def cpuIdleCard : Claim7 := { stood := { row := cpuIdleRow, standIns := [], harness := (true, "55b0123fc825946752f7663e1b1a98315901a8792d0935122c398aad4f2d6c72"), looks := false }, kinds := [], alts := [], laidByText := true, laidKinds := [.data], laidTests := true, laidLooks := .later }
def CpuIdleCardSaid : Prop := Claim7.holds Tryd.pinned (.plain (OpenSpec.ofChange cpuIdleSpec)) cpuIdleCard

/-- THE TIED CARD OF 'hermitcrablaw12.CpuSums'. -/
def cpuSumsCard : Claim7 := { stood := { row := cpuSumsRow, standIns := [], harness := (true, "55b0123fc825946752f7663e1b1a98315901a8792d0935122c398aad4f2d6c72"), looks := false }, kinds := [], alts := [], laidByText := true, laidKinds := [.data], laidTests := true, laidLooks := .later }
def CpuSumsCardSaid : Prop := Claim7.holds Tryd.pinned (.plain (OpenSpec.ofChange cpuSumsSpec)) cpuSumsCard

/-- THE TIED CARD OF 'hermitcrablaw12.CpuTraps'. -/
def cpuTrapsCard : Claim7 := { stood := { row := cpuTrapsRow, standIns := [], harness := (true, "55b0123fc825946752f7663e1b1a98315901a8792d0935122c398aad4f2d6c72"), looks := false }, kinds := [], alts := [], laidByText := true, laidKinds := [.data], laidTests := true, laidLooks := .later }
def CpuTrapsCardSaid : Prop := Claim7.holds Tryd.pinned (.plain (OpenSpec.ofChange cpuTrapsSpec)) cpuTrapsCard

/-- THE SECOND FORM's CARD OF 'hermitcrablaw12.CpuOne'. -/
def cpuOneUptoCard : Claim7 := { stood := { row := cpuOneUptoRow, standIns := [], harness := (true, "55b0123fc825946752f7663e1b1a98315901a8792d0935122c398aad4f2d6c72"), looks := false }, kinds := [], alts := [], laidByText := true, laidKinds := [.data], laidTests := true, laidLooks := .later }
def CpuOneUptoCardSaid : Prop := Claim7.holds Tryd.pinned (.plain (OpenSpec.upto cpuOneSpec)) cpuOneUptoCard

/-- THE SECOND FORM's CARD OF 'hermitcrablaw12.CpuRaw'. -/
def cpuRawUptoCard : Claim7 := { stood := { row := cpuRawUptoRow, standIns := [], harness := (true, "55b0123fc825946752f7663e1b1a98315901a8792d0935122c398aad4f2d6c72"), looks := false }, kinds := [], alts := [], laidByText := true, laidKinds := [.data], laidTests := true, laidLooks := .later }
def CpuRawUptoCardSaid : Prop := Claim7.holds Tryd.pinned (.plain (OpenSpec.upto cpuRawSpec)) cpuRawUptoCard

/-- THE SECOND FORM's CARD OF 'hermitcrablaw12.CpuRuns'. -/
def cpuRunsUptoCard : Claim7 := { stood := { row := cpuRunsUptoRow, standIns := [], harness := (true, "55b0123fc825946752f7663e1b1a98315901a8792d0935122c398aad4f2d6c72"), looks := false }, kinds := [], alts := [], laidByText := true, laidKinds := [.data], laidTests := true, laidLooks := .later }
def CpuRunsUptoCardSaid : Prop := Claim7.holds Tryd.pinned (.plain (OpenSpec.upto cpuRunsSpec)) cpuRunsUptoCard

/-- THE SECOND FORM's CARD OF 'hermitcrablaw12.CpuPages'. -/
def cpuPagesUptoCard : Claim7 := { stood := { row := cpuPagesUptoRow, standIns := [], harness := (true, "55b0123fc825946752f7663e1b1a98315901a8792d0935122c398aad4f2d6c72"), looks := false }, kinds := [], alts := [], laidByText := true, laidKinds := [.data], laidTests := true, laidLooks := .later }
def CpuPagesUptoCardSaid : Prop := Claim7.holds Tryd.pinned (.plain (OpenSpec.upto cpuPagesSpec)) cpuPagesUptoCard

/-- THE SECOND FORM's CARD OF 'hermitcrablaw12.CpuIdle'. -/
def cpuIdleUptoCard : Claim7 := { stood := { row := cpuIdleUptoRow, standIns := [], harness := (true, "55b0123fc825946752f7663e1b1a98315901a8792d0935122c398aad4f2d6c72"), looks := false }, kinds := [], alts := [], laidByText := true, laidKinds := [.data], laidTests := true, laidLooks := .later }
def CpuIdleUptoCardSaid : Prop := Claim7.holds Tryd.pinned (.plain (OpenSpec.upto cpuIdleSpec)) cpuIdleUptoCard

/-- THE SECOND FORM's CARD OF 'hermitcrablaw12.CpuSums'. -/
def cpuSumsUptoCard : Claim7 := { stood := { row := cpuSumsUptoRow, standIns := [], harness := (true, "55b0123fc825946752f7663e1b1a98315901a8792d0935122c398aad4f2d6c72"), looks := false }, kinds := [], alts := [], laidByText := true, laidKinds := [.data], laidTests := true, laidLooks := .later }
def CpuSumsUptoCardSaid : Prop := Claim7.holds Tryd.pinned (.plain (OpenSpec.upto cpuSumsSpec)) cpuSumsUptoCard

/-- THE SECOND FORM's CARD OF 'hermitcrablaw12.CpuTraps'. -/
def cpuTrapsUptoCard : Claim7 := { stood := { row := cpuTrapsUptoRow, standIns := [], harness := (true, "55b0123fc825946752f7663e1b1a98315901a8792d0935122c398aad4f2d6c72"), looks := false }, kinds := [], alts := [], laidByText := true, laidKinds := [.data], laidTests := true, laidLooks := .later }
def CpuTrapsUptoCardSaid : Prop := Claim7.holds Tryd.pinned (.plain (OpenSpec.upto cpuTrapsSpec)) cpuTrapsUptoCard
end Rows
end Go.Proofs.YtjlodddlbgpcdaaDoor
