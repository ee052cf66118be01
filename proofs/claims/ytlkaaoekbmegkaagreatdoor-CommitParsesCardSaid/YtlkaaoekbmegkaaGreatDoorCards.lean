/-
  DERIVED. GIVEN WITH THE SEED: THE CARDS: each row of YtlkaaoekbmegkaaGreatDoorRows.lean that lists a variable, with what it lists TIED to the program's text (the seventh form; the later family's looks); each row that meets fmt, with fmt's text TOLD by the authors' own Lean function (tested against real Go, not proved from fmt's source: count such statements apart). THE CARD IS WHAT COUNTS. Prove the row's statement (the work); the ties are given (YtlkaaoekbmegkaaGreatDoorTie.lean); close each card by the builder's one call (the guide's Derived/Test/ToyasCard.lean, 'card_holds'). Laid BY PROGRAM, IN A SANDBOX (cutbox-door.mjs). By AI agents, Wed Nov 11 2026. No macro, syntax, notation, axiom, sorry.
-/
import Derived.Test.YtlkaaoekbmegkaaGreatDoorRows
import GoSem.ClaimSeven
namespace Go.Proofs.YtlkaaoekbmegkaaGreatDoor
namespace Rows

/-- THE TIED CARD OF 'tramwaylaw11.CommitPrints'. -/
def commitPrintsCard : Claim7 := { stood := { row := commitPrintsRow, standIns := [], harness := (true, "d2b0e4e6eda359cdaecb23bc0e6a77029eaf1dd81466f16aa845621763cc405b"), looks := true }, kinds := [], alts := [], laidByText := true, laidKinds := [.data, .data, .data, .data, .sentinel, .sentinel, .pinned], laidTests := true, laidLooks := .later }
def CommitPrintsCardSaid : Prop := Claim7.holds Tryz.pinned (.plain (OpenSpec.ofChange commitPrintsSpec)) commitPrintsCard

/-- THE TIED CARD OF 'tramwaylaw11.CommitPersons'. -/
def commitPersonsCard : Claim7 := { stood := { row := commitPersonsRow, standIns := [], harness := (true, "d2b0e4e6eda359cdaecb23bc0e6a77029eaf1dd81466f16aa845621763cc405b"), looks := true }, kinds := [], alts := [], laidByText := true, laidKinds := [.data, .data, .data, .data, .sentinel, .sentinel, .pinned], laidTests := true, laidLooks := .later }
def CommitPersonsCardSaid : Prop := Claim7.holds Tryz.pinned (.plain (OpenSpec.ofChange commitPersonsSpec)) commitPersonsCard

/-- THE TIED CARD OF 'tramwaylaw11.CommitParses'. -/
def commitParsesCard : Claim7 := { stood := { row := commitParsesRow, standIns := [], harness := (true, "d2b0e4e6eda359cdaecb23bc0e6a77029eaf1dd81466f16aa845621763cc405b"), looks := true }, kinds := [], alts := [], laidByText := true, laidKinds := [.data, .data, .data, .data, .sentinel, .sentinel, .pinned], laidTests := true, laidLooks := .later }
def CommitParsesCardSaid : Prop := Claim7.holds Tryz.pinned (.plain (OpenSpec.ofChange commitParsesSpec)) commitParsesCard

/-- THE TIED CARD OF 'tramwaylaw11.CommitTags'. -/
def commitTagsCard : Claim7 := { stood := { row := commitTagsRow, standIns := [], harness := (true, "d2b0e4e6eda359cdaecb23bc0e6a77029eaf1dd81466f16aa845621763cc405b"), looks := true }, kinds := [], alts := [], laidByText := true, laidKinds := [.data, .data, .data, .data, .sentinel, .sentinel, .pinned], laidTests := true, laidLooks := .later }
def CommitTagsCardSaid : Prop := Claim7.holds Tryz.pinned (.plain (OpenSpec.ofChange commitTagsSpec)) commitTagsCard

/-- THE SECOND FORM's CARD OF 'tramwaylaw11.CommitPrints'. -/
def commitPrintsUptoCard : Claim7 := { stood := { row := commitPrintsUptoRow, standIns := [], harness := (true, "d2b0e4e6eda359cdaecb23bc0e6a77029eaf1dd81466f16aa845621763cc405b"), looks := true }, kinds := [], alts := [], laidByText := true, laidKinds := [.data, .data, .data, .data, .sentinel, .sentinel, .pinned], laidTests := true, laidLooks := .later }
def CommitPrintsUptoCardSaid : Prop := Claim7.holds Tryz.pinned (.plain (OpenSpec.upto commitPrintsSpec)) commitPrintsUptoCard

/-- THE SECOND FORM's CARD OF 'tramwaylaw11.CommitPersons'. -/
def commitPersonsUptoCard : Claim7 := { stood := { row := commitPersonsUptoRow, standIns := [], harness := (true, "d2b0e4e6eda359cdaecb23bc0e6a77029eaf1dd81466f16aa845621763cc405b"), looks := true }, kinds := [], alts := [], laidByText := true, laidKinds := [.data, .data, .data, .data, .sentinel, .sentinel, .pinned], laidTests := true, laidLooks := .later }
def CommitPersonsUptoCardSaid : Prop := Claim7.holds Tryz.pinned (.plain (OpenSpec.upto commitPersonsSpec)) commitPersonsUptoCard

/-- THE SECOND FORM's CARD OF 'tramwaylaw11.CommitParses'. -/
def commitParsesUptoCard : Claim7 := { stood := { row := commitParsesUptoRow, standIns := [], harness := (true, "d2b0e4e6eda359cdaecb23bc0e6a77029eaf1dd81466f16aa845621763cc405b"), looks := true }, kinds := [], alts := [], laidByText := true, laidKinds := [.data, .data, .data, .data, .sentinel, .sentinel, .pinned], laidTests := true, laidLooks := .later }
def CommitParsesUptoCardSaid : Prop := Claim7.holds Tryz.pinned (.plain (OpenSpec.upto commitParsesSpec)) commitParsesUptoCard

/-- THE SECOND FORM's CARD OF 'tramwaylaw11.CommitTags'. -/
def commitTagsUptoCard : Claim7 := { stood := { row := commitTagsUptoRow, standIns := [], harness := (true, "d2b0e4e6eda359cdaecb23bc0e6a77029eaf1dd81466f16aa845621763cc405b"), looks := true }, kinds := [], alts := [], laidByText := true, laidKinds := [.data, .data, .data, .data, .sentinel, .sentinel, .pinned], laidTests := true, laidLooks := .later }
def CommitTagsUptoCardSaid : Prop := Claim7.holds Tryz.pinned (.plain (OpenSpec.upto commitTagsSpec)) commitTagsUptoCard
end Rows
end Go.Proofs.YtlkaaoekbmegkaaGreatDoor
