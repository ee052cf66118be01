/- The package-level variables whose values the proofs of this seat lean on: none. -/
import Derived.Test.YtcnfglnnmmhfiaaSepF
set_option linter.all false
namespace Go.Proofs.Ytcnfglnnmmhfiaa
set_option linter.all false
open Go.RowKit
/-- What a package-level variable holds: cells of plain values, or an error made of a text. -/
inductive GE where
  | cells (cs : List Value)
  | err (t : TypeId) (l : List UInt8)
def globs : List (Nat × GE) := []
/-- Package-level variables of which the proofs know that they hold some integer. -/
def globInts : List Nat := []
end Go.Proofs.Ytcnfglnnmmhfiaa
