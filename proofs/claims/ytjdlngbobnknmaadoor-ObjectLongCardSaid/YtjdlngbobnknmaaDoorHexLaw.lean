/- Sums as text, in plain words. -/
import Derived.Test.YtjdlngbobnknmaaDoorShaLaw
import Derived.Lib.Bytealg
import Derived.KernelRfl
namespace Go.Proofs.YtjdlngbobnknmaaDoor
set_option linter.all false

def digs : List UInt8 := [48, 49, 50, 51, 52, 53, 54, 55, 56, 57, 97, 98, 99, 100, 101, 102]
def hexL : List UInt8 → List UInt8
  | [] => []
  | b :: l => digs.getD (b.toNat / 16) 0 :: digs.getD (b.toNat % 16) 0 :: hexL l

theorem known1 : hexL (sha []) = [100, 97, 51, 57, 97, 51, 101, 101, 53, 101, 54, 98, 52, 98, 48, 100, 51, 50, 53, 53, 98, 102, 101, 102, 57, 53, 54, 48, 49, 56, 57, 48, 97, 102, 100, 56, 48, 55, 48, 57] := by kernel_rfl
theorem known2 : hexL (sha [97, 98, 99]) = [97, 57, 57, 57, 51, 101, 51, 54, 52, 55, 48, 54, 56, 49, 54, 97, 98, 97, 51, 101, 50, 53, 55, 49, 55, 56, 53, 48, 99, 50, 54, 99, 57, 99, 100, 48, 100, 56, 57, 100] := by kernel_rfl

theorem hexL_length : ∀ l, (hexL l).length = 2 * l.length
  | [] => rfl
  | b :: l => by simp [hexL, hexL_length l]; omega
theorem hexL_append : ∀ l m, hexL (l ++ m) = hexL l ++ hexL m
  | [], m => rfl
  | b :: l, m => by simp [hexL, hexL_append l m]
end Go.Proofs.YtjdlngbobnknmaaDoor
