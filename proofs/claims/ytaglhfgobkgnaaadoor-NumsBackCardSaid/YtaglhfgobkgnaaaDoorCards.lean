/-
  DERIVED. GIVEN WITH THE SEED: THE CARDS: each row of YtaglhfgobkgnaaaDoorRows.lean that lists a variable, with what it lists TIED to the program's text (the seventh form; the later family's looks); each row that meets fmt, with fmt's text TOLD by the authors' own Lean function (tested against real Go, not proved from fmt's source: count such statements apart). THE CARD IS WHAT COUNTS. Prove the row's statement (the work); the ties are given (YtaglhfgobkgnaaaDoorTie.lean); close each card by the builder's one call (the guide's Derived/Test/ToyasCard.lean, 'card_holds'). Laid BY PROGRAM, IN A SANDBOX (cutbox-door.mjs). By AI agents, Wed Nov 11 2026. No macro, syntax, notation, axiom, sorry.
-/
import Derived.Test.YtaglhfgobkgnaaaDoorRows
import GoSem.ClaimSeven
namespace Go.Proofs.YtaglhfgobkgnaaaDoor
namespace Rows

/-- THE TIED CARD OF 'tramwaylaw06.NumsWrite'. -/
def numsWriteCard : Claim7 := { stood := { row := numsWriteRow, standIns := [], harness := (true, "fda731fbafdde2666bc777e2657c07028faed3534010e1ec81b7aa10b807121d"), looks := true }, kinds := [], alts := [], laidByText := true, laidKinds := [.data, .data, .data], laidTests := true, laidLooks := .later }
def NumsWriteCardSaid : Prop := Claim7.holds Tryd.pinned (.plain (OpenSpec.ofChange numsWriteSpec)) numsWriteCard

/-- THE TIED CARD OF 'tramwaylaw06.NumsGrow'. -/
def numsGrowCard : Claim7 := { stood := { row := numsGrowRow, standIns := [], harness := (true, "fda731fbafdde2666bc777e2657c07028faed3534010e1ec81b7aa10b807121d"), looks := true }, kinds := [], alts := [], laidByText := true, laidKinds := [.data, .data, .data], laidTests := true, laidLooks := .later }
def NumsGrowCardSaid : Prop := Claim7.holds Tryd.pinned (.plain (OpenSpec.ofChange numsGrowSpec)) numsGrowCard

/-- THE TIED CARD OF 'tramwaylaw06.NumsTexts'. -/
def numsTextsCard : Claim7 := { stood := { row := numsTextsRow, standIns := [], harness := (true, "fda731fbafdde2666bc777e2657c07028faed3534010e1ec81b7aa10b807121d"), looks := true }, kinds := [], alts := [], laidByText := true, laidKinds := [.data, .data, .data, .sentinel, .sentinel], laidTests := true, laidLooks := .later }
def NumsTextsCardSaid : Prop := Claim7.holds Tryd.pinned (.plain (OpenSpec.ofChange numsTextsSpec)) numsTextsCard

/-- THE TIED CARD OF 'tramwaylaw06.NumsSigns'. -/
def numsSignsCard : Claim7 := { stood := { row := numsSignsRow, standIns := [], harness := (true, "fda731fbafdde2666bc777e2657c07028faed3534010e1ec81b7aa10b807121d"), looks := true }, kinds := [], alts := [], laidByText := true, laidKinds := [.data, .data, .data, .sentinel, .sentinel], laidTests := true, laidLooks := .later }
def NumsSignsCardSaid : Prop := Claim7.holds Tryd.pinned (.plain (OpenSpec.ofChange numsSignsSpec)) numsSignsCard

/-- THE TIED CARD OF 'tramwaylaw06.NumsBack'. -/
def numsBackCard : Claim7 := { stood := { row := numsBackRow, standIns := [], harness := (true, "fda731fbafdde2666bc777e2657c07028faed3534010e1ec81b7aa10b807121d"), looks := true }, kinds := [], alts := [], laidByText := true, laidKinds := [.data, .data, .data, .sentinel, .sentinel], laidTests := true, laidLooks := .later }
def NumsBackCardSaid : Prop := Claim7.holds Tryd.pinned (.plain (OpenSpec.ofChange numsBackSpec)) numsBackCard

/-- THE SECOND FORM's CARD OF 'tramwaylaw06.NumsWrite'. -/
def numsWriteUptoCard : Claim7 := { stood := { row := numsWriteUptoRow, standIns := [], harness := (true, "fda731fbafdde2666bc777e2657c07028faed3534010e1ec81b7aa10b807121d"), looks := true }, kinds := [], alts := [], laidByText := true, laidKinds := [.data, .data, .data], laidTests := true, laidLooks := .later }
def NumsWriteUptoCardSaid : Prop := Claim7.holds Tryd.pinned (.plain (OpenSpec.upto numsWriteSpec)) numsWriteUptoCard

/-- THE SECOND FORM's CARD OF 'tramwaylaw06.NumsGrow'. -/
def numsGrowUptoCard : Claim7 := { stood := { row := numsGrowUptoRow, standIns := [], harness := (true, "fda731fbafdde2666bc777e2657c07028faed3534010e1ec81b7aa10b807121d"), looks := true }, kinds := [], alts := [], laidByText := true, laidKinds := [.data, .data, .data], laidTests := true, laidLooks := .later }
def NumsGrowUptoCardSaid : Prop := Claim7.holds Tryd.pinned (.plain (OpenSpec.upto numsGrowSpec)) numsGrowUptoCard

/-- THE SECOND FORM's CARD OF 'tramwaylaw06.NumsTexts'. -/
def numsTextsUptoCard : Claim7 := { stood := { row := numsTextsUptoRow, standIns := [], harness := (true, "fda731fbafdde2666bc777e2657c07028faed3534010e1ec81b7aa10b807121d"), looks := true }, kinds := [], alts := [], laidByText := true, laidKinds := [.data, .data, .data, .sentinel, .sentinel], laidTests := true, laidLooks := .later }
def NumsTextsUptoCardSaid : Prop := Claim7.holds Tryd.pinned (.plain (OpenSpec.upto numsTextsSpec)) numsTextsUptoCard

/-- THE SECOND FORM's CARD OF 'tramwaylaw06.NumsSigns'. -/
def numsSignsUptoCard : Claim7 := { stood := { row := numsSignsUptoRow, standIns := [], harness := (true, "fda731fbafdde2666bc777e2657c07028faed3534010e1ec81b7aa10b807121d"), looks := true }, kinds := [], alts := [], laidByText := true, laidKinds := [.data, .data, .data, .sentinel, .sentinel], laidTests := true, laidLooks := .later }
def NumsSignsUptoCardSaid : Prop := Claim7.holds Tryd.pinned (.plain (OpenSpec.upto numsSignsSpec)) numsSignsUptoCard

/-- THE SECOND FORM's CARD OF 'tramwaylaw06.NumsBack'. -/
def numsBackUptoCard : Claim7 := { stood := { row := numsBackUptoRow, standIns := [], harness := (true, "fda731fbafdde2666bc777e2657c07028faed3534010e1ec81b7aa10b807121d"), looks := true }, kinds := [], alts := [], laidByText := true, laidKinds := [.data, .data, .data, .sentinel, .sentinel], laidTests := true, laidLooks := .later }
def NumsBackUptoCardSaid : Prop := Claim7.holds Tryd.pinned (.plain (OpenSpec.upto numsBackSpec)) numsBackUptoCard
end Rows
end Go.Proofs.YtaglhfgobkgnaaaDoor
