import Derived.Test.YtakojeefilpibaaDoorVMem
import Derived.WalkKit
import Derived.ProofKit
import Derived.OpenShut
import Derived.ShutString
import Derived.ChangeOld
import Derived.Below
import Derived.Deep.Slices
import Derived.Deep.Fields
import Derived.ChangeSame
namespace Go.Proofs.YtakojeefilpibaaDoor
set_option linter.all false
open Go.RowKit Go.ChangeShapes Go.WideShapes Go.ChangeAt Go.Deep
structure Arg (W : World) (A : Option Addr) (n c : Nat) (l : List UInt8) : Prop where
  len : n = l.length
  rd : Rd W A l
  cap : l.length ≤ c
  max : c ≤ 9223372036854775807
  blk : ∀ k, ablk A = some k → k < W.heap.size
theorem Rd.take {w : World} {A : Option Addr} {l : List UInt8} (h : Rd w A l) (n : Nat) : Rd w A (l.take n) := by
  intro hl
  have hl2 : 0 < l.length := by rw [List.length_take] at hl; omega
  obtain ⟨b, o, e, hc⟩ := h hl2
  refine ⟨b, o, e, fun k hk => ?_⟩
  rw [List.length_take] at hk
  rw [at8_take _ _ _ (by omega)]
  exact hc k (by omega)
theorem Arg.take {W : World} {A : Option Addr} {n c : Nat} {l : List UInt8} (h : Arg W A n c l) (k : Nat) : Arg W A (min n k) c (l.take k) :=
  ⟨by rw [List.length_take, h.len]; omega, h.rd.take k, by have := h.cap; rw [List.length_take]; omega, h.max, h.blk⟩
section
variable {H : Type} {enc : TypeId × Value → H} {P : Program} {w : World} {base : Nat} {spare : Nat → Bool} {held : Bool}
end
end Go.Proofs.YtakojeefilpibaaDoor
