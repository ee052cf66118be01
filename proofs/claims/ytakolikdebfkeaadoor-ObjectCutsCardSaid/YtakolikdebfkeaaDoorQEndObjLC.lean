/- Two statements of layer 9, gathered so that their claims share texts. -/
import Derived.Test.YtakolikdebfkeaaDoorQBIdxCode
import Derived.Test.YtakolikdebfkeaaDoorQEndObjectCuts
namespace Go.Proofs.YtakolikdebfkeaaDoor
set_option linter.all false
theorem objLC_proved : Rows.ObjectLooseCardSaid ∧ Rows.ObjectCutsCardSaid := ⟨objectLoose_proved, objectCuts_proved⟩
end Go.Proofs.YtakolikdebfkeaaDoor
