/-
  DERIVED. GIVEN WITH THE SEED: THE CARDS: each row of YtlkaaoekbmegkaaDoorRows.lean that lists a variable, with what it lists TIED to the program's text (the seventh form; the later family's looks); each row that meets fmt, with fmt's text TOLD by the authors' own Lean function (tested against real Go, not proved from fmt's source: count such statements apart). THE CARD IS WHAT COUNTS. Prove the row's statement (the work); the ties are given (YtlkaaoekbmegkaaDoorTie.lean); close each card by the builder's one call (the guide's Derived/Test/ToyasCard.lean, 'card_holds'). Laid BY PROGRAM, IN A SANDBOX (cutbox-door.mjs). By AI agents, Wed Nov 11 2026. No macro, syntax, notation, axiom, sorry.
-/
import Derived.Test.YtlkaaoekbmegkaaDoorRows
import GoSem.ClaimSeven
namespace Go.Proofs.YtlkaaoekbmegkaaDoor
namespace Rows

/-- THE TIED CARD OF 'tramwaylaw11.CommitBack'. -/
def commitBackCard : Claim7 := { stood := { row := commitBackRow, standIns := [], harness := (true, "8e21b31caed33ecb96dbef01db35fcef5eb211b7612b63c3ab9631c88c2f2e3e"), looks := true }, kinds := [], alts := [], laidByText := true, laidKinds := [.data, .data, .data, .data, .sentinel, .sentinel, .pinned], laidTests := true, laidLooks := .later }
def CommitBackCardSaid : Prop := Claim7.holds Tryd.pinned (.plain (OpenSpec.ofChange commitBackSpec)) commitBackCard

/-- THE TIED CARD OF 'tramwaylaw11.CommitMore'. -/
def commitMoreCard : Claim7 := { stood := { row := commitMoreRow, standIns := [], harness := (true, "8e21b31caed33ecb96dbef01db35fcef5eb211b7612b63c3ab9631c88c2f2e3e"), looks := true }, kinds := [], alts := [], laidByText := true, laidKinds := [.data, .data, .data, .data, .sentinel, .sentinel, .pinned], laidTests := true, laidLooks := .later }
def CommitMoreCardSaid : Prop := Claim7.holds Tryd.pinned (.plain (OpenSpec.ofChange commitMoreSpec)) commitMoreCard

/-- THE SECOND FORM's CARD OF 'tramwaylaw11.CommitBack'. -/
def commitBackUptoCard : Claim7 := { stood := { row := commitBackUptoRow, standIns := [], harness := (true, "8e21b31caed33ecb96dbef01db35fcef5eb211b7612b63c3ab9631c88c2f2e3e"), looks := true }, kinds := [], alts := [], laidByText := true, laidKinds := [.data, .data, .data, .data, .sentinel, .sentinel, .pinned], laidTests := true, laidLooks := .later }
def CommitBackUptoCardSaid : Prop := Claim7.holds Tryd.pinned (.plain (OpenSpec.upto commitBackSpec)) commitBackUptoCard

/-- THE SECOND FORM's CARD OF 'tramwaylaw11.CommitMore'. -/
def commitMoreUptoCard : Claim7 := { stood := { row := commitMoreUptoRow, standIns := [], harness := (true, "8e21b31caed33ecb96dbef01db35fcef5eb211b7612b63c3ab9631c88c2f2e3e"), looks := true }, kinds := [], alts := [], laidByText := true, laidKinds := [.data, .data, .data, .data, .sentinel, .sentinel, .pinned], laidTests := true, laidLooks := .later }
def CommitMoreUptoCardSaid : Prop := Claim7.holds Tryd.pinned (.plain (OpenSpec.upto commitMoreSpec)) commitMoreUptoCard
end Rows
end Go.Proofs.YtlkaaoekbmegkaaDoor
