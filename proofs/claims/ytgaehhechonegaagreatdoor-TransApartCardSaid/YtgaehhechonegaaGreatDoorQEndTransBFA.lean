/- Three statements of layer 23, gathered so that their claims share texts. -/
import Derived.Test.YtgaehhechonegaaGreatDoorQEndTransBack
namespace Go.Proofs.YtgaehhechonegaaGreatDoor
set_option linter.all false
theorem transBFA_proved : Rows.TransBackCardSaid ∧ Rows.TransForthCardSaid ∧ Rows.TransApartCardSaid := ⟨transBack_proved, transForth_proved, transApart_proved⟩
end Go.Proofs.YtgaehhechonegaaGreatDoor
