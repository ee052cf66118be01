/- Two statements of layer 23, gathered so that their claims share texts. -/
import Derived.Test.YtgaehhechonegaaGreatDoorWFRTrn5
namespace Go.Proofs.YtgaehhechonegaaGreatDoor
set_option linter.all false
theorem transCC_proved : Rows.TransChangesCardSaid ∧ Rows.TransCommitsCardSaid := ⟨transChanges_proved, transCommits_proved⟩
end Go.Proofs.YtgaehhechonegaaGreatDoor
