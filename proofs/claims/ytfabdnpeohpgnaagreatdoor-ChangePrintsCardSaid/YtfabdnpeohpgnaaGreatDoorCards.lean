/-
  DERIVED. GIVEN WITH THE SEED: THE CARDS: each row of YtfabdnpeohpgnaaGreatDoorRows.lean that lists a variable, with what it lists TIED to the program's text (the seventh form; the later family's looks); each row that meets fmt, with fmt's text TOLD by the authors' own Lean function (tested against real Go, not proved from fmt's source: count such statements apart). THE CARD IS WHAT COUNTS. Prove the row's statement (the work); the ties are given (YtfabdnpeohpgnaaGreatDoorTie.lean); close each card by the builder's one call (the guide's Derived/Test/ToyasCard.lean, 'card_holds'). Laid BY PROGRAM, IN A SANDBOX (cutbox-door.mjs). By AI agents, Wed Nov 11 2026. No macro, syntax, notation, axiom, sorry.
-/
import Derived.Test.YtfabdnpeohpgnaaGreatDoorRows
import GoSem.ClaimSeven
namespace Go.Proofs.YtfabdnpeohpgnaaGreatDoor
namespace Rows

/-- THE TIED CARD OF 'tramwaylaw19.ChangePrints'. -/
def changePrintsCard : Claim7 := { stood := { row := changePrintsRow, standIns := [], harness := (true, "37889dcae23eee0d84accb1913480c862ec73400a63776b39df52f7b2c7d6b7b"), looks := true }, kinds := [], alts := [], laidByText := true, laidKinds := [.data, .data, .data, .data, .sentinel, .sentinel, .pinned], laidTests := true, laidLooks := .later }
def ChangePrintsCardSaid : Prop := Claim7.holds Tryz.pinned (.plain (OpenSpec.ofChange changePrintsSpec)) changePrintsCard

/-- THE TIED CARD OF 'tramwaylaw19.ChangeParses'. -/
def changeParsesCard : Claim7 := { stood := { row := changeParsesRow, standIns := [], harness := (true, "37889dcae23eee0d84accb1913480c862ec73400a63776b39df52f7b2c7d6b7b"), looks := true }, kinds := [], alts := [], laidByText := true, laidKinds := [.data, .data, .data, .data, .sentinel, .sentinel, .pinned], laidTests := true, laidLooks := .later }
def ChangeParsesCardSaid : Prop := Claim7.holds Tryz.pinned (.plain (OpenSpec.ofChange changeParsesSpec)) changeParsesCard

/-- THE SECOND FORM's CARD OF 'tramwaylaw19.ChangePrints'. -/
def changePrintsUptoCard : Claim7 := { stood := { row := changePrintsUptoRow, standIns := [], harness := (true, "37889dcae23eee0d84accb1913480c862ec73400a63776b39df52f7b2c7d6b7b"), looks := true }, kinds := [], alts := [], laidByText := true, laidKinds := [.data, .data, .data, .data, .sentinel, .sentinel, .pinned], laidTests := true, laidLooks := .later }
def ChangePrintsUptoCardSaid : Prop := Claim7.holds Tryz.pinned (.plain (OpenSpec.upto changePrintsSpec)) changePrintsUptoCard

/-- THE SECOND FORM's CARD OF 'tramwaylaw19.ChangeParses'. -/
def changeParsesUptoCard : Claim7 := { stood := { row := changeParsesUptoRow, standIns := [], harness := (true, "37889dcae23eee0d84accb1913480c862ec73400a63776b39df52f7b2c7d6b7b"), looks := true }, kinds := [], alts := [], laidByText := true, laidKinds := [.data, .data, .data, .data, .sentinel, .sentinel, .pinned], laidTests := true, laidLooks := .later }
def ChangeParsesUptoCardSaid : Prop := Claim7.holds Tryz.pinned (.plain (OpenSpec.upto changeParsesSpec)) changeParsesUptoCard
end Rows
end Go.Proofs.YtfabdnpeohpgnaaGreatDoor
