/-
  DERIVED. GIVEN WITH THE SEED: THE CARDS: each row of YtfabdnpeohpgnaaDoorRows.lean that lists a variable, with what it lists TIED to the program's text (the seventh form; the later family's looks); each row that meets fmt, with fmt's text TOLD by the authors' own Lean function (tested against real Go, not proved from fmt's source: count such statements apart). THE CARD IS WHAT COUNTS. Prove the row's statement (the work); the ties are given (YtfabdnpeohpgnaaDoorTie.lean); close each card by the builder's one call (the guide's Derived/Test/ToyasCard.lean, 'card_holds'). Laid BY PROGRAM, IN A SANDBOX (cutbox-door.mjs). By AI agents, Wed Nov 11 2026. No macro, syntax, notation, axiom, sorry.
-/
import Derived.Test.YtfabdnpeohpgnaaDoorRows
import GoSem.ClaimSeven
namespace Go.Proofs.YtfabdnpeohpgnaaDoor
namespace Rows

/-- THE TIED CARD OF 'tramwaylaw19.ChangeBack'. -/
def changeBackCard : Claim7 := { stood := { row := changeBackRow, standIns := [], harness := (true, "f955a4003d5340cb1bad0a17146a221c5b4a062f28910e21f9f764634e58e770"), looks := true }, kinds := [], alts := [], laidByText := true, laidKinds := [.data, .data, .data, .data, .sentinel, .sentinel, .pinned], laidTests := true, laidLooks := .later }
def ChangeBackCardSaid : Prop := Claim7.holds Tryd.pinned (.plain (OpenSpec.ofChange changeBackSpec)) changeBackCard

/-- THE TIED CARD OF 'tramwaylaw19.ChangeMore'. -/
def changeMoreCard : Claim7 := { stood := { row := changeMoreRow, standIns := [], harness := (true, "f955a4003d5340cb1bad0a17146a221c5b4a062f28910e21f9f764634e58e770"), looks := true }, kinds := [], alts := [], laidByText := true, laidKinds := [.data, .data, .data, .data, .sentinel, .sentinel, .pinned], laidTests := true, laidLooks := .later }
def ChangeMoreCardSaid : Prop := Claim7.holds Tryd.pinned (.plain (OpenSpec.ofChange changeMoreSpec)) changeMoreCard

/-- THE TIED CARD OF 'tramwaylaw19.ChangeValues'. -/
def changeValuesCard : Claim7 := { stood := { row := changeValuesRow, standIns := [], harness := (true, "f955a4003d5340cb1bad0a17146a221c5b4a062f28910e21f9f764634e58e770"), looks := true }, kinds := [], alts := [], laidByText := true, laidKinds := [.data, .data, .data, .data, .sentinel, .sentinel, .pinned], laidTests := true, laidLooks := .later }
def ChangeValuesCardSaid : Prop := Claim7.holds Tryd.pinned (.plain (OpenSpec.ofChange changeValuesSpec)) changeValuesCard

/-- THE SECOND FORM's CARD OF 'tramwaylaw19.ChangeBack'. -/
def changeBackUptoCard : Claim7 := { stood := { row := changeBackUptoRow, standIns := [], harness := (true, "f955a4003d5340cb1bad0a17146a221c5b4a062f28910e21f9f764634e58e770"), looks := true }, kinds := [], alts := [], laidByText := true, laidKinds := [.data, .data, .data, .data, .sentinel, .sentinel, .pinned], laidTests := true, laidLooks := .later }
def ChangeBackUptoCardSaid : Prop := Claim7.holds Tryd.pinned (.plain (OpenSpec.upto changeBackSpec)) changeBackUptoCard

/-- THE SECOND FORM's CARD OF 'tramwaylaw19.ChangeMore'. -/
def changeMoreUptoCard : Claim7 := { stood := { row := changeMoreUptoRow, standIns := [], harness := (true, "f955a4003d5340cb1bad0a17146a221c5b4a062f28910e21f9f764634e58e770"), looks := true }, kinds := [], alts := [], laidByText := true, laidKinds := [.data, .data, .data, .data, .sentinel, .sentinel, .pinned], laidTests := true, laidLooks := .later }
def ChangeMoreUptoCardSaid : Prop := Claim7.holds Tryd.pinned (.plain (OpenSpec.upto changeMoreSpec)) changeMoreUptoCard

/-- THE SECOND FORM's CARD OF 'tramwaylaw19.ChangeValues'. -/
def changeValuesUptoCard : Claim7 := { stood := { row := changeValuesUptoRow, standIns := [], harness := (true, "f955a4003d5340cb1bad0a17146a221c5b4a062f28910e21f9f764634e58e770"), looks := true }, kinds := [], alts := [], laidByText := true, laidKinds := [.data, .data, .data, .data, .sentinel, .sentinel, .pinned], laidTests := true, laidLooks := .later }
def ChangeValuesUptoCardSaid : Prop := Claim7.holds Tryd.pinned (.plain (OpenSpec.upto changeValuesSpec)) changeValuesUptoCard
end Rows
end Go.Proofs.YtfabdnpeohpgnaaDoor
