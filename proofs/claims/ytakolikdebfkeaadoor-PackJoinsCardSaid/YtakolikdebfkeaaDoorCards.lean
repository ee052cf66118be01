/-
  DERIVED. GIVEN WITH THE SEED: THE CARDS: each row of YtakolikdebfkeaaDoorRows.lean that lists a variable, with what it lists TIED to the program's text (the seventh form; the later family's looks); each row that meets fmt, with fmt's text TOLD by the authors' own Lean function (tested against real Go, not proved from fmt's source: count such statements apart). THE CARD IS WHAT COUNTS. Prove the row's statement (the work); the ties are given (YtakolikdebfkeaaDoorTie.lean); close each card by the builder's one call (the guide's Derived/Test/ToyasCard.lean, 'card_holds'). Laid BY PROGRAM, IN A SANDBOX (cutbox-door.mjs). By AI agents, Wed Nov 11 2026. No macro, syntax, notation, axiom, sorry.
-/
import Derived.Test.YtakolikdebfkeaaDoorRows
import GoSem.ClaimSeven
namespace Go.Proofs.YtakolikdebfkeaaDoor
namespace Rows

/-- THE TIED CARD OF 'tramwaylaw12.PackJoins'. -/
def packJoinsCard : Claim7 := { stood := { row := packJoinsRow, standIns := [], harness := (true, "c98f1dd644cab228620ea4466823a9930046a3a3836f234cbc0aa11453bbb07c"), looks := true }, kinds := [], alts := [], laidByText := true, laidKinds := [.data, .data, .data], laidTests := true, laidLooks := .later }
def PackJoinsCardSaid : Prop := Claim7.holds Tryd.pinned (.plain (OpenSpec.ofChange packJoinsSpec)) packJoinsCard

/-- THE TIED CARD OF 'tramwaylaw09.ObjectLoose'. -/
def objectLooseCard : Claim7 := { stood := { row := objectLooseRow, standIns := [], harness := (true, "c98f1dd644cab228620ea4466823a9930046a3a3836f234cbc0aa11453bbb07c"), looks := true }, kinds := [], alts := [], laidByText := true, laidKinds := [.data, .data, .data, .sentinel, .sentinel], laidTests := true, laidLooks := .later }
def ObjectLooseCardSaid : Prop := Claim7.holds Tryd.pinned (.plain (OpenSpec.ofChange objectLooseSpec)) objectLooseCard

/-- THE TIED CARD OF 'tramwaylaw09.ObjectCuts'. -/
def objectCutsCard : Claim7 := { stood := { row := objectCutsRow, standIns := [], harness := (true, "c98f1dd644cab228620ea4466823a9930046a3a3836f234cbc0aa11453bbb07c"), looks := true }, kinds := [], alts := [], laidByText := true, laidKinds := [.data, .data, .data, .sentinel, .sentinel], laidTests := true, laidLooks := .later }
def ObjectCutsCardSaid : Prop := Claim7.holds Tryd.pinned (.plain (OpenSpec.ofChange objectCutsSpec)) objectCutsCard

/-- THE SECOND FORM's CARD OF 'tramwaylaw12.PackJoins'. -/
def packJoinsUptoCard : Claim7 := { stood := { row := packJoinsUptoRow, standIns := [], harness := (true, "c98f1dd644cab228620ea4466823a9930046a3a3836f234cbc0aa11453bbb07c"), looks := true }, kinds := [], alts := [], laidByText := true, laidKinds := [.data, .data, .data], laidTests := true, laidLooks := .later }
def PackJoinsUptoCardSaid : Prop := Claim7.holds Tryd.pinned (.plain (OpenSpec.upto packJoinsSpec)) packJoinsUptoCard

/-- THE SECOND FORM's CARD OF 'tramwaylaw09.ObjectLoose'. -/
def objectLooseUptoCard : Claim7 := { stood := { row := objectLooseUptoRow, standIns := [], harness := (true, "c98f1dd644cab228620ea4466823a9930046a3a3836f234cbc0aa11453bbb07c"), looks := true }, kinds := [], alts := [], laidByText := true, laidKinds := [.data, .data, .data, .sentinel, .sentinel], laidTests := true, laidLooks := .later }
def ObjectLooseUptoCardSaid : Prop := Claim7.holds Tryd.pinned (.plain (OpenSpec.upto objectLooseSpec)) objectLooseUptoCard

/-- THE SECOND FORM's CARD OF 'tramwaylaw09.ObjectCuts'. -/
def objectCutsUptoCard : Claim7 := { stood := { row := objectCutsUptoRow, standIns := [], harness := (true, "c98f1dd644cab228620ea4466823a9930046a3a3836f234cbc0aa11453bbb07c"), looks := true }, kinds := [], alts := [], laidByText := true, laidKinds := [.data, .data, .data, .sentinel, .sentinel], laidTests := true, laidLooks := .later }
def ObjectCutsUptoCardSaid : Prop := Claim7.holds Tryd.pinned (.plain (OpenSpec.upto objectCutsSpec)) objectCutsUptoCard
end Rows
end Go.Proofs.YtakolikdebfkeaaDoor
