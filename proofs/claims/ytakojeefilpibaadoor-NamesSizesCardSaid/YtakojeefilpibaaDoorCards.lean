/-
  DERIVED. GIVEN WITH THE SEED: THE CARDS: each row of YtakojeefilpibaaDoorRows.lean that lists a variable, with what it lists TIED to the program's text (the seventh form; the later family's looks); each row that meets fmt, with fmt's text TOLD by the authors' own Lean function (tested against real Go, not proved from fmt's source: count such statements apart). THE CARD IS WHAT COUNTS. Prove the row's statement (the work); the ties are given (YtakojeefilpibaaDoorTie.lean); close each card by the builder's one call (the guide's Derived/Test/ToyasCard.lean, 'card_holds'). Laid BY PROGRAM, IN A SANDBOX (cutbox-door.mjs). By AI agents, Wed Nov 11 2026. No macro, syntax, notation, axiom, sorry.
-/
import Derived.Test.YtakojeefilpibaaDoorRows
import GoSem.ClaimSeven
namespace Go.Proofs.YtakojeefilpibaaDoor
namespace Rows

/-- THE TIED CARD OF 'tramwaylaw17.NamesBack'. -/
def namesBackCard : Claim7 := { stood := { row := namesBackRow, standIns := [], harness := (true, "c5359d65f6d7952e445480e9e867dcaa48a6ad4572cdea7417cf5d2830937be5"), looks := false }, kinds := [], alts := [], laidByText := true, laidKinds := [.data, .pinned], laidTests := true, laidLooks := .later }
def NamesBackCardSaid : Prop := Claim7.holds Tryd.pinned (.plain (OpenSpec.ofChange namesBackSpec)) namesBackCard

/-- THE TIED CARD OF 'tramwaylaw17.NamesSizes'. -/
def namesSizesCard : Claim7 := { stood := { row := namesSizesRow, standIns := [], harness := (true, "c5359d65f6d7952e445480e9e867dcaa48a6ad4572cdea7417cf5d2830937be5"), looks := false }, kinds := [], alts := [], laidByText := true, laidKinds := [.data, .pinned], laidTests := true, laidLooks := .later }
def NamesSizesCardSaid : Prop := Claim7.holds Tryd.pinned (.plain (OpenSpec.ofChange namesSizesSpec)) namesSizesCard

/-- THE SECOND FORM's CARD OF 'tramwaylaw17.NamesBack'. -/
def namesBackUptoCard : Claim7 := { stood := { row := namesBackUptoRow, standIns := [], harness := (true, "c5359d65f6d7952e445480e9e867dcaa48a6ad4572cdea7417cf5d2830937be5"), looks := false }, kinds := [], alts := [], laidByText := true, laidKinds := [.data, .pinned], laidTests := true, laidLooks := .later }
def NamesBackUptoCardSaid : Prop := Claim7.holds Tryd.pinned (.plain (OpenSpec.upto namesBackSpec)) namesBackUptoCard

/-- THE SECOND FORM's CARD OF 'tramwaylaw17.NamesSizes'. -/
def namesSizesUptoCard : Claim7 := { stood := { row := namesSizesUptoRow, standIns := [], harness := (true, "c5359d65f6d7952e445480e9e867dcaa48a6ad4572cdea7417cf5d2830937be5"), looks := false }, kinds := [], alts := [], laidByText := true, laidKinds := [.data, .pinned], laidTests := true, laidLooks := .later }
def NamesSizesUptoCardSaid : Prop := Claim7.holds Tryd.pinned (.plain (OpenSpec.upto namesSizesSpec)) namesSizesUptoCard
end Rows
end Go.Proofs.YtakojeefilpibaaDoor
