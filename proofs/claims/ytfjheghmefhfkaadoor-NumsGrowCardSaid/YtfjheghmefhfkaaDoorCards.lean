/-
  DERIVED. GIVEN WITH THE SEED: THE CARDS: each row of YtfjheghmefhfkaaDoorRows.lean that lists a variable, with what it lists TIED to the program's text (the seventh form; the later family's looks); each row that meets fmt, with fmt's text TOLD by the authors' own Lean function (tested against real Go, not proved from fmt's source: count such statements apart). THE CARD IS WHAT COUNTS. Prove the row's statement (the work); the ties are given (YtfjheghmefhfkaaDoorTie.lean); close each card by the builder's one call (the guide's Derived/Test/ToyasCard.lean, 'card_holds'). Laid BY PROGRAM, IN A SANDBOX (cutbox-door.mjs). By AI agents, Wed Nov 11 2026. No macro, syntax, notation, axiom, sorry.
-/
import Derived.Test.YtfjheghmefhfkaaDoorRows
import GoSem.ClaimSeven
namespace Go.Proofs.YtfjheghmefhfkaaDoor
namespace Rows

/-- THE TIED CARD OF 'tramwaylaw06.NumsWrite'. -/
def numsWriteCard : Claim7 := { stood := { row := numsWriteRow, standIns := [], harness := (true, "9378e6c7fc7ebd07925cde656988a73968963202e0ffb414b072583c69054136"), looks := false }, kinds := [], alts := [], laidByText := true, laidKinds := [.data, .data, .data], laidTests := true, laidLooks := .later }
def NumsWriteCardSaid : Prop := Claim7.holds Tryd.pinned (.plain (OpenSpec.ofChange numsWriteSpec)) numsWriteCard

/-- THE TIED CARD OF 'tramwaylaw06.NumsGrow'. -/
def numsGrowCard : Claim7 := { stood := { row := numsGrowRow, standIns := [], harness := (true, "9378e6c7fc7ebd07925cde656988a73968963202e0ffb414b072583c69054136"), looks := false }, kinds := [], alts := [], laidByText := true, laidKinds := [.data, .data, .data], laidTests := true, laidLooks := .later }
def NumsGrowCardSaid : Prop := Claim7.holds Tryd.pinned (.plain (OpenSpec.ofChange numsGrowSpec)) numsGrowCard

/-- THE SECOND FORM's CARD OF 'tramwaylaw06.NumsWrite'. -/
def numsWriteUptoCard : Claim7 := { stood := { row := numsWriteUptoRow, standIns := [], harness := (true, "9378e6c7fc7ebd07925cde656988a73968963202e0ffb414b072583c69054136"), looks := false }, kinds := [], alts := [], laidByText := true, laidKinds := [.data, .data, .data], laidTests := true, laidLooks := .later }
def NumsWriteUptoCardSaid : Prop := Claim7.holds Tryd.pinned (.plain (OpenSpec.upto numsWriteSpec)) numsWriteUptoCard

/-- THE SECOND FORM's CARD OF 'tramwaylaw06.NumsGrow'. -/
def numsGrowUptoCard : Claim7 := { stood := { row := numsGrowUptoRow, standIns := [], harness := (true, "9378e6c7fc7ebd07925cde656988a73968963202e0ffb414b072583c69054136"), looks := false }, kinds := [], alts := [], laidByText := true, laidKinds := [.data, .data, .data], laidTests := true, laidLooks := .later }
def NumsGrowUptoCardSaid : Prop := Claim7.holds Tryd.pinned (.plain (OpenSpec.upto numsGrowSpec)) numsGrowUptoCard
end Rows
end Go.Proofs.YtfjheghmefhfkaaDoor
