/-
  DERIVED. GIVEN WITH THE SEED: THE CARDS: each row of YtajgiolnajneeaaDoorRows.lean that lists a variable, with what it lists TIED to the program's text (the seventh form; the later family's looks); each row that meets fmt, with fmt's text TOLD by the authors' own Lean function (tested against real Go, not proved from fmt's source: count such statements apart). THE CARD IS WHAT COUNTS. Prove the row's statement (the work); the ties are given (YtajgiolnajneeaaDoorTie.lean); close each card by the builder's one call (the guide's Derived/Test/ToyasCard.lean, 'card_holds'). Laid BY PROGRAM, IN A SANDBOX (cutbox-door.mjs). By AI agents, Wed Nov 11 2026. No macro, syntax, notation, axiom, sorry.
-/
import Derived.Test.YtajgiolnajneeaaDoorRows
import GoSem.ClaimSeven
namespace Go.Proofs.YtajgiolnajneeaaDoor
namespace Rows

/-- THE TIED CARD OF 'hermitcrablaw09.LineRaises'. -/
def lineRaisesCard : Claim7 := { stood := { row := lineRaisesRow, standIns := [], harness := (true, "e397abe6ea99eb67e41d6adcffccbfd519221135ac762ad517703ab6ff4e2b65"), looks := false }, kinds := [], alts := [], laidByText := true, laidKinds := [.data], laidTests := true, laidLooks := .later }
def LineRaisesCardSaid : Prop := Claim7.holds Tryd.pinned (.plain (OpenSpec.ofChange lineRaisesSpec)) lineRaisesCard

/-- THE TIED CARD OF 'hermitcrablaw09.LineTakes'. -/
def lineTakesCard : Claim7 := { stood := { row := lineTakesRow, standIns := [], harness := (true, "e397abe6ea99eb67e41d6adcffccbfd519221135ac762ad517703ab6ff4e2b65"), looks := false }, kinds := [], alts := [], laidByText := true, laidKinds := [.data], laidTests := true, laidLooks := .later }
def LineTakesCardSaid : Prop := Claim7.holds Tryd.pinned (.plain (OpenSpec.ofChange lineTakesSpec)) lineTakesCard

/-- THE TIED CARD OF 'hermitcrablaw09.LineWakes'. -/
def lineWakesCard : Claim7 := { stood := { row := lineWakesRow, standIns := [], harness := (true, "e397abe6ea99eb67e41d6adcffccbfd519221135ac762ad517703ab6ff4e2b65"), looks := false }, kinds := [], alts := [], laidByText := true, laidKinds := [.data], laidTests := true, laidLooks := .later }
def LineWakesCardSaid : Prop := Claim7.holds Tryd.pinned (.plain (OpenSpec.ofChange lineWakesSpec)) lineWakesCard

/-- THE TIED CARD OF 'hermitcrablaw09.LineAll'. -/
def lineAllCard : Claim7 := { stood := { row := lineAllRow, standIns := [], harness := (true, "e397abe6ea99eb67e41d6adcffccbfd519221135ac762ad517703ab6ff4e2b65"), looks := false }, kinds := [], alts := [], laidByText := true, laidKinds := [.data], laidTests := true, laidLooks := .later }
def LineAllCardSaid : Prop := Claim7.holds Tryd.pinned (.plain (OpenSpec.ofChange lineAllSpec)) lineAllCard

/-- THE TIED CARD OF 'hermitcrablaw09.LineMasks'. -/
def lineMasksCard : Claim7 := { stood := { row := lineMasksRow, standIns := [], harness := (true, "e397abe6ea99eb67e41d6adcffccbfd519221135ac762ad517703ab6ff4e2b65"), looks := false }, kinds := [], alts := [], laidByText := true, laidKinds := [.data], laidTests := true, laidLooks := .later }
def LineMasksCardSaid : Prop := Claim7.holds Tryd.pinned (.plain (OpenSpec.ofChange lineMasksSpec)) lineMasksCard

/-- THE SECOND FORM's CARD OF 'hermitcrablaw09.LineRaises'. -/
def lineRaisesUptoCard : Claim7 := { stood := { row := lineRaisesUptoRow, standIns := [], harness := (true, "e397abe6ea99eb67e41d6adcffccbfd519221135ac762ad517703ab6ff4e2b65"), looks := false }, kinds := [], alts := [], laidByText := true, laidKinds := [.data], laidTests := true, laidLooks := .later }
def LineRaisesUptoCardSaid : Prop := Claim7.holds Tryd.pinned (.plain (OpenSpec.upto lineRaisesSpec)) lineRaisesUptoCard

/-- THE SECOND FORM's CARD OF 'hermitcrablaw09.LineTakes'. -/
def lineTakesUptoCard : Claim7 := { stood := { row := lineTakesUptoRow, standIns := [], harness := (true, "e397abe6ea99eb67e41d6adcffccbfd519221135ac762ad517703ab6ff4e2b65"), looks := false }, kinds := [], alts := [], laidByText := true, laidKinds := [.data], laidTests := true, laidLooks := .later }
def LineTakesUptoCardSaid : Prop := Claim7.holds Tryd.pinned (.plain (OpenSpec.upto lineTakesSpec)) lineTakesUptoCard

/-- THE SECOND FORM's CARD OF 'hermitcrablaw09.LineWakes'. -/
def lineWakesUptoCard : Claim7 := { stood := { row := lineWakesUptoRow, standIns := [], harness := (true, "e397abe6ea99eb67e41d6adcffccbfd519221135ac762ad517703ab6ff4e2b65"), looks := false }, kinds := [], alts := [], laidByText := true, laidKinds := [.data], laidTests := true, laidLooks := .later }
def LineWakesUptoCardSaid : Prop := Claim7.holds Tryd.pinned (.plain (OpenSpec.upto lineWakesSpec)) lineWakesUptoCard

/-- THE SECOND FORM's CARD OF 'hermitcrablaw09.LineAll'. -/
def lineAllUptoCard : Claim7 := { stood := { row := lineAllUptoRow, standIns := [], harness := (true, "e397abe6ea99eb67e41d6adcffccbfd519221135ac762ad517703ab6ff4e2b65"), looks := false }, kinds := [], alts := [], laidByText := true, laidKinds := [.data], laidTests := true, laidLooks := .later }
def LineAllUptoCardSaid : Prop := Claim7.holds Tryd.pinned (.plain (OpenSpec.upto lineAllSpec)) lineAllUptoCard

/-- THE SECOND FORM's CARD OF 'hermitcrablaw09.LineMasks'. -/
def lineMasksUptoCard : Claim7 := { stood := { row := lineMasksUptoRow, standIns := [], harness := (true, "e397abe6ea99eb67e41d6adcffccbfd519221135ac762ad517703ab6ff4e2b65"), looks := false }, kinds := [], alts := [], laidByText := true, laidKinds := [.data], laidTests := true, laidLooks := .later }
def LineMasksUptoCardSaid : Prop := Claim7.holds Tryd.pinned (.plain (OpenSpec.upto lineMasksSpec)) lineMasksUptoCard
end Rows
end Go.Proofs.YtajgiolnajneeaaDoor
