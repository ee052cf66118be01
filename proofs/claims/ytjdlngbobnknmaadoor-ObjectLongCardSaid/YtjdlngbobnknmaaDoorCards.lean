/-
  DERIVED. GIVEN WITH THE SEED: THE CARDS: each row of YtjdlngbobnknmaaDoorRows.lean that lists a variable, with what it lists TIED to the program's text (the seventh form; the later family's looks); each row that meets fmt, with fmt's text TOLD by the authors' own Lean function (tested against real Go, not proved from fmt's source: count such statements apart). THE CARD IS WHAT COUNTS. Prove the row's statement (the work); the ties are given (YtjdlngbobnknmaaDoorTie.lean); close each card by the builder's one call (the guide's Derived/Test/ToyasCard.lean, 'card_holds'). Laid BY PROGRAM, IN A SANDBOX (cutbox-door.mjs). By AI agents, Wed Nov 11 2026. No macro, syntax, notation, axiom, sorry.
-/
import Derived.Test.YtjdlngbobnknmaaDoorRows
import GoSem.ClaimSeven
namespace Go.Proofs.YtjdlngbobnknmaaDoor
namespace Rows

/-- THE TIED CARD OF 'tramwaylaw09.ObjectNames'. -/
def objectNamesCard : Claim7 := { stood := { row := objectNamesRow, standIns := [], harness := (true, "8acb96f4ab238bfcd49254e34000ddddf7163f1d149d385a4fb36c2ff83c90e8"), looks := false }, kinds := [], alts := [], laidByText := true, laidKinds := [.data, .data, .data], laidTests := true, laidLooks := .later }
def ObjectNamesCardSaid : Prop := Claim7.holds Tryd.pinned (.plain (OpenSpec.ofChange objectNamesSpec)) objectNamesCard

/-- THE TIED CARD OF 'tramwaylaw09.ObjectLong'. -/
def objectLongCard : Claim7 := { stood := { row := objectLongRow, standIns := [], harness := (true, "8acb96f4ab238bfcd49254e34000ddddf7163f1d149d385a4fb36c2ff83c90e8"), looks := false }, kinds := [], alts := [], laidByText := true, laidKinds := [.data, .data, .data], laidTests := true, laidLooks := .later }
def ObjectLongCardSaid : Prop := Claim7.holds Tryd.pinned (.plain (OpenSpec.ofChange objectLongSpec)) objectLongCard

/-- THE SECOND FORM's CARD OF 'tramwaylaw09.ObjectNames'. -/
def objectNamesUptoCard : Claim7 := { stood := { row := objectNamesUptoRow, standIns := [], harness := (true, "8acb96f4ab238bfcd49254e34000ddddf7163f1d149d385a4fb36c2ff83c90e8"), looks := false }, kinds := [], alts := [], laidByText := true, laidKinds := [.data, .data, .data], laidTests := true, laidLooks := .later }
def ObjectNamesUptoCardSaid : Prop := Claim7.holds Tryd.pinned (.plain (OpenSpec.upto objectNamesSpec)) objectNamesUptoCard

/-- THE SECOND FORM's CARD OF 'tramwaylaw09.ObjectLong'. -/
def objectLongUptoCard : Claim7 := { stood := { row := objectLongUptoRow, standIns := [], harness := (true, "8acb96f4ab238bfcd49254e34000ddddf7163f1d149d385a4fb36c2ff83c90e8"), looks := false }, kinds := [], alts := [], laidByText := true, laidKinds := [.data, .data, .data], laidTests := true, laidLooks := .later }
def ObjectLongUptoCardSaid : Prop := Claim7.holds Tryd.pinned (.plain (OpenSpec.upto objectLongSpec)) objectLongUptoCard
end Rows
end Go.Proofs.YtjdlngbobnknmaaDoor
