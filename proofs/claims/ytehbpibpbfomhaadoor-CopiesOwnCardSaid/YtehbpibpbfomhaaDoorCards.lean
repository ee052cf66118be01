/-
  DERIVED. GIVEN WITH THE SEED: THE CARDS: each row of YtehbpibpbfomhaaDoorRows.lean that lists a variable, with what it lists TIED to the program's text (the seventh form; the later family's looks); each row that meets fmt, with fmt's text TOLD by the authors' own Lean function (tested against real Go, not proved from fmt's source: count such statements apart). THE CARD IS WHAT COUNTS. Prove the row's statement (the work); the ties are given (YtehbpibpbfomhaaDoorTie.lean); close each card by the builder's one call (the guide's Derived/Test/ToyasCard.lean, 'card_holds'). Laid BY PROGRAM, IN A SANDBOX (cutbox-door.mjs). By AI agents, Wed Nov 11 2026. No macro, syntax, notation, axiom, sorry.
-/
import Derived.Test.YtehbpibpbfomhaaDoorRows
import GoSem.ClaimSeven
namespace Go.Proofs.YtehbpibpbfomhaaDoor
namespace Rows

/-- THE TIED CARD OF 'tramwaylaw20.CopiesPrints'. -/
def copiesPrintsCard : Claim7 := { stood := { row := copiesPrintsRow, standIns := [], harness := (true, "29fd1d8aa20b7268108eab12f8ab43e9aa20d25b4649394879cf428ab6adbb36"), looks := false }, kinds := [], alts := [], laidByText := true, laidKinds := [.data, .pinned], laidTests := true, laidLooks := .later }
def CopiesPrintsCardSaid : Prop := Claim7.holds Tryd.pinned (.plain (OpenSpec.ofChange copiesPrintsSpec)) copiesPrintsCard

/-- THE TIED CARD OF 'tramwaylaw20.CopiesParses'. -/
def copiesParsesCard : Claim7 := { stood := { row := copiesParsesRow, standIns := [], harness := (true, "29fd1d8aa20b7268108eab12f8ab43e9aa20d25b4649394879cf428ab6adbb36"), looks := false }, kinds := [], alts := [], laidByText := true, laidKinds := [.data, .pinned], laidTests := true, laidLooks := .later }
def CopiesParsesCardSaid : Prop := Claim7.holds Tryd.pinned (.plain (OpenSpec.ofChange copiesParsesSpec)) copiesParsesCard

/-- THE TIED CARD OF 'tramwaylaw20.CopiesBack'. -/
def copiesBackCard : Claim7 := { stood := { row := copiesBackRow, standIns := [], harness := (true, "29fd1d8aa20b7268108eab12f8ab43e9aa20d25b4649394879cf428ab6adbb36"), looks := false }, kinds := [], alts := [], laidByText := true, laidKinds := [.data, .pinned], laidTests := true, laidLooks := .later }
def CopiesBackCardSaid : Prop := Claim7.holds Tryd.pinned (.plain (OpenSpec.ofChange copiesBackSpec)) copiesBackCard

/-- THE TIED CARD OF 'tramwaylaw20.CopiesOwn'. -/
def copiesOwnCard : Claim7 := { stood := { row := copiesOwnRow, standIns := [], harness := (true, "29fd1d8aa20b7268108eab12f8ab43e9aa20d25b4649394879cf428ab6adbb36"), looks := false }, kinds := [], alts := [], laidByText := true, laidKinds := [.data, .pinned], laidTests := true, laidLooks := .later }
def CopiesOwnCardSaid : Prop := Claim7.holds Tryd.pinned (.plain (OpenSpec.ofChange copiesOwnSpec)) copiesOwnCard

/-- THE TIED CARD OF 'tramwaylaw20.CopiesPlain'. -/
def copiesPlainCard : Claim7 := { stood := { row := copiesPlainRow, standIns := [], harness := (true, "29fd1d8aa20b7268108eab12f8ab43e9aa20d25b4649394879cf428ab6adbb36"), looks := false }, kinds := [], alts := [], laidByText := true, laidKinds := [.data, .pinned], laidTests := true, laidLooks := .later }
def CopiesPlainCardSaid : Prop := Claim7.holds Tryd.pinned (.plain (OpenSpec.ofChange copiesPlainSpec)) copiesPlainCard

/-- THE SECOND FORM's CARD OF 'tramwaylaw20.CopiesPrints'. -/
def copiesPrintsUptoCard : Claim7 := { stood := { row := copiesPrintsUptoRow, standIns := [], harness := (true, "29fd1d8aa20b7268108eab12f8ab43e9aa20d25b4649394879cf428ab6adbb36"), looks := false }, kinds := [], alts := [], laidByText := true, laidKinds := [.data, .pinned], laidTests := true, laidLooks := .later }
def CopiesPrintsUptoCardSaid : Prop := Claim7.holds Tryd.pinned (.plain (OpenSpec.upto copiesPrintsSpec)) copiesPrintsUptoCard

/-- THE SECOND FORM's CARD OF 'tramwaylaw20.CopiesParses'. -/
def copiesParsesUptoCard : Claim7 := { stood := { row := copiesParsesUptoRow, standIns := [], harness := (true, "29fd1d8aa20b7268108eab12f8ab43e9aa20d25b4649394879cf428ab6adbb36"), looks := false }, kinds := [], alts := [], laidByText := true, laidKinds := [.data, .pinned], laidTests := true, laidLooks := .later }
def CopiesParsesUptoCardSaid : Prop := Claim7.holds Tryd.pinned (.plain (OpenSpec.upto copiesParsesSpec)) copiesParsesUptoCard

/-- THE SECOND FORM's CARD OF 'tramwaylaw20.CopiesBack'. -/
def copiesBackUptoCard : Claim7 := { stood := { row := copiesBackUptoRow, standIns := [], harness := (true, "29fd1d8aa20b7268108eab12f8ab43e9aa20d25b4649394879cf428ab6adbb36"), looks := false }, kinds := [], alts := [], laidByText := true, laidKinds := [.data, .pinned], laidTests := true, laidLooks := .later }
def CopiesBackUptoCardSaid : Prop := Claim7.holds Tryd.pinned (.plain (OpenSpec.upto copiesBackSpec)) copiesBackUptoCard

/-- THE SECOND FORM's CARD OF 'tramwaylaw20.CopiesOwn'. -/
def copiesOwnUptoCard : Claim7 := { stood := { row := copiesOwnUptoRow, standIns := [], harness := (true, "29fd1d8aa20b7268108eab12f8ab43e9aa20d25b4649394879cf428ab6adbb36"), looks := false }, kinds := [], alts := [], laidByText := true, laidKinds := [.data, .pinned], laidTests := true, laidLooks := .later }
def CopiesOwnUptoCardSaid : Prop := Claim7.holds Tryd.pinned (.plain (OpenSpec.upto copiesOwnSpec)) copiesOwnUptoCard

/-- THE SECOND FORM's CARD OF 'tramwaylaw20.CopiesPlain'. -/
def copiesPlainUptoCard : Claim7 := { stood := { row := copiesPlainUptoRow, standIns := [], harness := (true, "29fd1d8aa20b7268108eab12f8ab43e9aa20d25b4649394879cf428ab6adbb36"), looks := false }, kinds := [], alts := [], laidByText := true, laidKinds := [.data, .pinned], laidTests := true, laidLooks := .later }
def CopiesPlainUptoCardSaid : Prop := Claim7.holds Tryd.pinned (.plain (OpenSpec.upto copiesPlainSpec)) copiesPlainUptoCard
end Rows
end Go.Proofs.YtehbpibpbfomhaaDoor
