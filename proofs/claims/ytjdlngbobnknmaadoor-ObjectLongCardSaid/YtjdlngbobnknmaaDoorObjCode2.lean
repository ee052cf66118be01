/- The document's whole object (printed by gen.py). -/
import Derived.Test.YtjdlngbobnknmaaDoorObjCode
namespace Go.Proofs.YtjdlngbobnknmaaDoor
set_option linter.all false
open Go.RowKit
/-! tramway/tramwayref09.Whole -/
def c_owhole : ACode := (.seq (.reg none [⟨(some 4), (.mv (.c (.con (.slice none 0 0)))), none⟩]) (.seq (.reg none [⟨(some 6), (.mv (.t 0)), none⟩, ⟨(some 7), (.call 7 [(.t 6)]), none⟩, ⟨(some 8), (.bytes 5 (.t 7)), none⟩, ⟨(some 9), (.buildSl 5 1 [(.c (.int .u8 32))]), none⟩, ⟨(some 10), (.app 5 1 1 (.t 8) (.t 9)), none⟩, ⟨(some 5), (.mv (.t 10)), none⟩]) (.seq (.reg none [⟨(some 11), (.mv (.t 5)), none⟩, ⟨(some 12), (.mv (.t 1)), none⟩, ⟨(some 13), (.len none false (.t 12)), none⟩, ⟨(some 14), (.call 31 [(.t 13)]), none⟩, ⟨(some 15), (.appS 5 (.t 11) (.t 14)), none⟩, ⟨(some 5), (.mv (.t 15)), none⟩]) (.seq (.reg none [⟨(some 16), (.mv (.t 5)), none⟩, ⟨(some 17), (.buildSl 5 1 [(.c (.int .u8 0))]), none⟩, ⟨(some 18), (.app 5 1 1 (.t 16) (.t 17)), none⟩, ⟨(some 19), (.mv (.t 1)), none⟩, ⟨(some 20), (.app 5 1 1 (.t 18) (.t 19)), none⟩, ⟨(some 4), (.mv (.t 20)), none⟩]) .ret))))
def r_owhole : List ARes := [(.t 4)]
theorem s_owhole : slimF Tryd.prog Tryd.f20 = some (c_owhole, r_owhole) := by kernel_rfl
end Go.Proofs.YtjdlngbobnknmaaDoor
