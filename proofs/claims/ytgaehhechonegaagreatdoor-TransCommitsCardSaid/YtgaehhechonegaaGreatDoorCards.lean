/-
  DERIVED. GIVEN WITH THE SEED: THE CARDS: each row of YtgaehhechonegaaGreatDoorRows.lean that lists a variable, with what it lists TIED to the program's text (the seventh form; the later family's looks); each row that meets fmt, with fmt's text TOLD by the authors' own Lean function (tested against real Go, not proved from fmt's source: count such statements apart). THE CARD IS WHAT COUNTS. Prove the row's statement (the work); the ties are given (YtgaehhechonegaaGreatDoorTie.lean); close each card by the builder's one call (the guide's Derived/Test/ToyasCard.lean, 'card_holds'). Laid BY PROGRAM, IN A SANDBOX (cutbox-door.mjs). By AI agents, Wed Nov 11 2026. No macro, syntax, notation, axiom, sorry.
-/
import Derived.Test.YtgaehhechonegaaGreatDoorRows
import GoSem.ClaimSeven
namespace Go.Proofs.YtgaehhechonegaaGreatDoor
namespace Rows

/-- THE TIED CARD OF 'tramwaylaw23.TransChanges'. -/
def transChangesCard : Claim7 := { stood := { row := transChangesRow, standIns := [], harness := (true, "db646f1bcdefcf265fd592b8637b6a1e9f9abe049a2ea3499e45ded016ebd571"), looks := true }, kinds := [], alts := [], laidByText := true, laidKinds := [.data, .data, .data, .data, .sentinel, .sentinel, .pinned], laidTests := true, laidLooks := .later }
def TransChangesCardSaid : Prop := Claim7.holds Tryz.pinned (.plain (OpenSpec.ofChange transChangesSpec)) transChangesCard

/-- THE TIED CARD OF 'tramwaylaw23.TransCommits'. -/
def transCommitsCard : Claim7 := { stood := { row := transCommitsRow, standIns := [], harness := (true, "db646f1bcdefcf265fd592b8637b6a1e9f9abe049a2ea3499e45ded016ebd571"), looks := true }, kinds := [], alts := [], laidByText := true, laidKinds := [.data, .data, .data, .data, .sentinel, .sentinel, .pinned], laidTests := true, laidLooks := .later }
def TransCommitsCardSaid : Prop := Claim7.holds Tryz.pinned (.plain (OpenSpec.ofChange transCommitsSpec)) transCommitsCard

/-- THE TIED CARD OF 'tramwaylaw23.TransBack'. -/
def transBackCard : Claim7 := { stood := { row := transBackRow, standIns := [], harness := (true, "db646f1bcdefcf265fd592b8637b6a1e9f9abe049a2ea3499e45ded016ebd571"), looks := true }, kinds := [], alts := [], laidByText := true, laidKinds := [.data, .data, .data, .data, .sentinel, .sentinel, .pinned], laidTests := true, laidLooks := .later }
def TransBackCardSaid : Prop := Claim7.holds Tryz.pinned (.plain (OpenSpec.ofChange transBackSpec)) transBackCard

/-- THE TIED CARD OF 'tramwaylaw23.TransForth'. -/
def transForthCard : Claim7 := { stood := { row := transForthRow, standIns := [], harness := (true, "db646f1bcdefcf265fd592b8637b6a1e9f9abe049a2ea3499e45ded016ebd571"), looks := true }, kinds := [], alts := [], laidByText := true, laidKinds := [.data, .data, .data, .data, .sentinel, .sentinel, .pinned], laidTests := true, laidLooks := .later }
def TransForthCardSaid : Prop := Claim7.holds Tryz.pinned (.plain (OpenSpec.ofChange transForthSpec)) transForthCard

/-- THE TIED CARD OF 'tramwaylaw23.TransNests'. -/
def transNestsCard : Claim7 := { stood := { row := transNestsRow, standIns := [], harness := (true, "db646f1bcdefcf265fd592b8637b6a1e9f9abe049a2ea3499e45ded016ebd571"), looks := true }, kinds := [], alts := [], laidByText := true, laidKinds := [.data, .data, .data, .data, .sentinel, .sentinel, .pinned], laidTests := true, laidLooks := .later }
def TransNestsCardSaid : Prop := Claim7.holds Tryz.pinned (.plain (OpenSpec.ofChange transNestsSpec)) transNestsCard

/-- THE TIED CARD OF 'tramwaylaw23.TransApart'. -/
def transApartCard : Claim7 := { stood := { row := transApartRow, standIns := [], harness := (true, "db646f1bcdefcf265fd592b8637b6a1e9f9abe049a2ea3499e45ded016ebd571"), looks := true }, kinds := [], alts := [], laidByText := true, laidKinds := [.data, .data, .data, .data, .sentinel, .sentinel, .pinned], laidTests := true, laidLooks := .later }
def TransApartCardSaid : Prop := Claim7.holds Tryz.pinned (.plain (OpenSpec.ofChange transApartSpec)) transApartCard

/-- THE SECOND FORM's CARD OF 'tramwaylaw23.TransChanges'. -/
def transChangesUptoCard : Claim7 := { stood := { row := transChangesUptoRow, standIns := [], harness := (true, "db646f1bcdefcf265fd592b8637b6a1e9f9abe049a2ea3499e45ded016ebd571"), looks := true }, kinds := [], alts := [], laidByText := true, laidKinds := [.data, .data, .data, .data, .sentinel, .sentinel, .pinned], laidTests := true, laidLooks := .later }
def TransChangesUptoCardSaid : Prop := Claim7.holds Tryz.pinned (.plain (OpenSpec.upto transChangesSpec)) transChangesUptoCard

/-- THE SECOND FORM's CARD OF 'tramwaylaw23.TransCommits'. -/
def transCommitsUptoCard : Claim7 := { stood := { row := transCommitsUptoRow, standIns := [], harness := (true, "db646f1bcdefcf265fd592b8637b6a1e9f9abe049a2ea3499e45ded016ebd571"), looks := true }, kinds := [], alts := [], laidByText := true, laidKinds := [.data, .data, .data, .data, .sentinel, .sentinel, .pinned], laidTests := true, laidLooks := .later }
def TransCommitsUptoCardSaid : Prop := Claim7.holds Tryz.pinned (.plain (OpenSpec.upto transCommitsSpec)) transCommitsUptoCard

/-- THE SECOND FORM's CARD OF 'tramwaylaw23.TransBack'. -/
def transBackUptoCard : Claim7 := { stood := { row := transBackUptoRow, standIns := [], harness := (true, "db646f1bcdefcf265fd592b8637b6a1e9f9abe049a2ea3499e45ded016ebd571"), looks := true }, kinds := [], alts := [], laidByText := true, laidKinds := [.data, .data, .data, .data, .sentinel, .sentinel, .pinned], laidTests := true, laidLooks := .later }
def TransBackUptoCardSaid : Prop := Claim7.holds Tryz.pinned (.plain (OpenSpec.upto transBackSpec)) transBackUptoCard

/-- THE SECOND FORM's CARD OF 'tramwaylaw23.TransForth'. -/
def transForthUptoCard : Claim7 := { stood := { row := transForthUptoRow, standIns := [], harness := (true, "db646f1bcdefcf265fd592b8637b6a1e9f9abe049a2ea3499e45ded016ebd571"), looks := true }, kinds := [], alts := [], laidByText := true, laidKinds := [.data, .data, .data, .data, .sentinel, .sentinel, .pinned], laidTests := true, laidLooks := .later }
def TransForthUptoCardSaid : Prop := Claim7.holds Tryz.pinned (.plain (OpenSpec.upto transForthSpec)) transForthUptoCard

/-- THE SECOND FORM's CARD OF 'tramwaylaw23.TransNests'. -/
def transNestsUptoCard : Claim7 := { stood := { row := transNestsUptoRow, standIns := [], harness := (true, "db646f1bcdefcf265fd592b8637b6a1e9f9abe049a2ea3499e45ded016ebd571"), looks := true }, kinds := [], alts := [], laidByText := true, laidKinds := [.data, .data, .data, .data, .sentinel, .sentinel, .pinned], laidTests := true, laidLooks := .later }
def TransNestsUptoCardSaid : Prop := Claim7.holds Tryz.pinned (.plain (OpenSpec.upto transNestsSpec)) transNestsUptoCard

/-- THE SECOND FORM's CARD OF 'tramwaylaw23.TransApart'. -/
def transApartUptoCard : Claim7 := { stood := { row := transApartUptoRow, standIns := [], harness := (true, "db646f1bcdefcf265fd592b8637b6a1e9f9abe049a2ea3499e45ded016ebd571"), looks := true }, kinds := [], alts := [], laidByText := true, laidKinds := [.data, .data, .data, .data, .sentinel, .sentinel, .pinned], laidTests := true, laidLooks := .later }
def TransApartUptoCardSaid : Prop := Claim7.holds Tryz.pinned (.plain (OpenSpec.upto transApartSpec)) transApartUptoCard
end Rows
end Go.Proofs.YtgaehhechonegaaGreatDoor
