/- Three statements of layer 19, gathered so that their claims share texts. -/
import Derived.Test.YtfabdnpeohpgnaaDoorQFLChg2
import Derived.Test.YtfabdnpeohpgnaaDoorQLGValues
namespace Go.Proofs.YtfabdnpeohpgnaaDoor
set_option linter.all false
theorem changeAll_proved : Rows.ChangeBackCardSaid ∧ Rows.ChangeMoreCardSaid ∧ Rows.ChangeValuesCardSaid := ⟨changeBack_proved, changeMore_proved, changeValues_proved⟩
end Go.Proofs.YtfabdnpeohpgnaaDoor
