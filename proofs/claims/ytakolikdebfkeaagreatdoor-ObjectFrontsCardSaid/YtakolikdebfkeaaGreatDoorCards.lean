/-
  DERIVED. GIVEN WITH THE SEED: THE CARDS: each row of YtakolikdebfkeaaGreatDoorRows.lean that lists a variable, with what it lists TIED to the program's text (the seventh form; the later family's looks); each row that meets fmt, with fmt's text TOLD by the authors' own Lean function (tested against real Go, not proved from fmt's source: count such statements apart). THE CARD IS WHAT COUNTS. Prove the row's statement (the work); the ties are given (YtakolikdebfkeaaGreatDoorTie.lean); close each card by the builder's one call (the guide's Derived/Test/ToyasCard.lean, 'card_holds'). Laid BY PROGRAM, IN A SANDBOX (cutbox-door.mjs). By AI agents, Wed Nov 11 2026. No macro, syntax, notation, axiom, sorry.
-/
import Derived.Test.YtakolikdebfkeaaGreatDoorRows
import GoSem.ClaimSeven
namespace Go.Proofs.YtakolikdebfkeaaGreatDoor
namespace Rows

/-- THE TIED CARD OF 'tramwaylaw09.ObjectOpens'. -/
def objectOpensCard : Claim7 := { stood := { row := objectOpensRow, standIns := [], harness := (true, "4571b82ac108d1aa12523dcdc67e48549335fd5270a36e93413d49e46f095174"), looks := true }, kinds := [], alts := [], laidByText := true, laidKinds := [.data, .data, .data, .sentinel, .sentinel], laidTests := true, laidLooks := .later }
def ObjectOpensCardSaid : Prop := Claim7.holds Tryz.pinned (.plain (OpenSpec.ofChange objectOpensSpec)) objectOpensCard

/-- THE TIED CARD OF 'tramwaylaw12.PackWrites'. -/
def packWritesCard : Claim7 := { stood := { row := packWritesRow, standIns := [], harness := (true, "4571b82ac108d1aa12523dcdc67e48549335fd5270a36e93413d49e46f095174"), looks := true }, kinds := [], alts := [], laidByText := true, laidKinds := [.data, .data, .data], laidTests := true, laidLooks := .later }
def PackWritesCardSaid : Prop := Claim7.holds Tryz.pinned (.plain (OpenSpec.ofChange packWritesSpec)) packWritesCard

/-- THE TIED CARD OF 'tramwaylaw12.PackReads'. -/
def packReadsCard : Claim7 := { stood := { row := packReadsRow, standIns := [], harness := (true, "4571b82ac108d1aa12523dcdc67e48549335fd5270a36e93413d49e46f095174"), looks := true }, kinds := [], alts := [], laidByText := true, laidKinds := [.data, .data, .data], laidTests := true, laidLooks := .later }
def PackReadsCardSaid : Prop := Claim7.holds Tryz.pinned (.plain (OpenSpec.ofChange packReadsSpec)) packReadsCard

/-- THE TIED CARD OF 'tramwaylaw09.ObjectFronts'. -/
def objectFrontsCard : Claim7 := { stood := { row := objectFrontsRow, standIns := [], harness := (true, "4571b82ac108d1aa12523dcdc67e48549335fd5270a36e93413d49e46f095174"), looks := true }, kinds := [], alts := [], laidByText := true, laidKinds := [.data, .data, .data, .sentinel, .sentinel], laidTests := true, laidLooks := .later }
def ObjectFrontsCardSaid : Prop := Claim7.holds Tryz.pinned (.plain (OpenSpec.ofChange objectFrontsSpec)) objectFrontsCard

/-- THE TIED CARD OF 'tramwaylaw12.PackSmall'. -/
def packSmallCard : Claim7 := { stood := { row := packSmallRow, standIns := [], harness := (true, "4571b82ac108d1aa12523dcdc67e48549335fd5270a36e93413d49e46f095174"), looks := true }, kinds := [], alts := [], laidByText := true, laidKinds := [.data, .data, .data], laidTests := true, laidLooks := .later }
def PackSmallCardSaid : Prop := Claim7.holds Tryz.pinned (.plain (OpenSpec.ofChange packSmallSpec)) packSmallCard

/-- THE TIED CARD OF 'tramwaylaw12.PackIndexes'. -/
def packIndexesCard : Claim7 := { stood := { row := packIndexesRow, standIns := [], harness := (true, "4571b82ac108d1aa12523dcdc67e48549335fd5270a36e93413d49e46f095174"), looks := true }, kinds := [], alts := [], laidByText := true, laidKinds := [.data, .data, .data], laidTests := true, laidLooks := .later }
def PackIndexesCardSaid : Prop := Claim7.holds Tryz.pinned (.plain (OpenSpec.ofChange packIndexesSpec)) packIndexesCard

/-- THE TIED CARD OF 'tramwaylaw12.PackFinds'. -/
def packFindsCard : Claim7 := { stood := { row := packFindsRow, standIns := [], harness := (true, "4571b82ac108d1aa12523dcdc67e48549335fd5270a36e93413d49e46f095174"), looks := true }, kinds := [], alts := [], laidByText := true, laidKinds := [.data, .data, .data], laidTests := true, laidLooks := .later }
def PackFindsCardSaid : Prop := Claim7.holds Tryz.pinned (.plain (OpenSpec.ofChange packFindsSpec)) packFindsCard

/-- THE SECOND FORM's CARD OF 'tramwaylaw09.ObjectOpens'. -/
def objectOpensUptoCard : Claim7 := { stood := { row := objectOpensUptoRow, standIns := [], harness := (true, "4571b82ac108d1aa12523dcdc67e48549335fd5270a36e93413d49e46f095174"), looks := true }, kinds := [], alts := [], laidByText := true, laidKinds := [.data, .data, .data, .sentinel, .sentinel], laidTests := true, laidLooks := .later }
def ObjectOpensUptoCardSaid : Prop := Claim7.holds Tryz.pinned (.plain (OpenSpec.upto objectOpensSpec)) objectOpensUptoCard

/-- THE SECOND FORM's CARD OF 'tramwaylaw12.PackWrites'. -/
def packWritesUptoCard : Claim7 := { stood := { row := packWritesUptoRow, standIns := [], harness := (true, "4571b82ac108d1aa12523dcdc67e48549335fd5270a36e93413d49e46f095174"), looks := true }, kinds := [], alts := [], laidByText := true, laidKinds := [.data, .data, .data], laidTests := true, laidLooks := .later }
def PackWritesUptoCardSaid : Prop := Claim7.holds Tryz.pinned (.plain (OpenSpec.upto packWritesSpec)) packWritesUptoCard

/-- THE SECOND FORM's CARD OF 'tramwaylaw12.PackReads'. -/
def packReadsUptoCard : Claim7 := { stood := { row := packReadsUptoRow, standIns := [], harness := (true, "4571b82ac108d1aa12523dcdc67e48549335fd5270a36e93413d49e46f095174"), looks := true }, kinds := [], alts := [], laidByText := true, laidKinds := [.data, .data, .data], laidTests := true, laidLooks := .later }
def PackReadsUptoCardSaid : Prop := Claim7.holds Tryz.pinned (.plain (OpenSpec.upto packReadsSpec)) packReadsUptoCard

/-- THE SECOND FORM's CARD OF 'tramwaylaw09.ObjectFronts'. -/
def objectFrontsUptoCard : Claim7 := { stood := { row := objectFrontsUptoRow, standIns := [], harness := (true, "4571b82ac108d1aa12523dcdc67e48549335fd5270a36e93413d49e46f095174"), looks := true }, kinds := [], alts := [], laidByText := true, laidKinds := [.data, .data, .data, .sentinel, .sentinel], laidTests := true, laidLooks := .later }
def ObjectFrontsUptoCardSaid : Prop := Claim7.holds Tryz.pinned (.plain (OpenSpec.upto objectFrontsSpec)) objectFrontsUptoCard

/-- THE SECOND FORM's CARD OF 'tramwaylaw12.PackSmall'. -/
def packSmallUptoCard : Claim7 := { stood := { row := packSmallUptoRow, standIns := [], harness := (true, "4571b82ac108d1aa12523dcdc67e48549335fd5270a36e93413d49e46f095174"), looks := true }, kinds := [], alts := [], laidByText := true, laidKinds := [.data, .data, .data], laidTests := true, laidLooks := .later }
def PackSmallUptoCardSaid : Prop := Claim7.holds Tryz.pinned (.plain (OpenSpec.upto packSmallSpec)) packSmallUptoCard

/-- THE SECOND FORM's CARD OF 'tramwaylaw12.PackIndexes'. -/
def packIndexesUptoCard : Claim7 := { stood := { row := packIndexesUptoRow, standIns := [], harness := (true, "4571b82ac108d1aa12523dcdc67e48549335fd5270a36e93413d49e46f095174"), looks := true }, kinds := [], alts := [], laidByText := true, laidKinds := [.data, .data, .data], laidTests := true, laidLooks := .later }
def PackIndexesUptoCardSaid : Prop := Claim7.holds Tryz.pinned (.plain (OpenSpec.upto packIndexesSpec)) packIndexesUptoCard

/-- THE SECOND FORM's CARD OF 'tramwaylaw12.PackFinds'. -/
def packFindsUptoCard : Claim7 := { stood := { row := packFindsUptoRow, standIns := [], harness := (true, "4571b82ac108d1aa12523dcdc67e48549335fd5270a36e93413d49e46f095174"), looks := true }, kinds := [], alts := [], laidByText := true, laidKinds := [.data, .data, .data], laidTests := true, laidLooks := .later }
def PackFindsUptoCardSaid : Prop := Claim7.holds Tryz.pinned (.plain (OpenSpec.upto packFindsSpec)) packFindsUptoCard
end Rows
end Go.Proofs.YtakolikdebfkeaaGreatDoor
