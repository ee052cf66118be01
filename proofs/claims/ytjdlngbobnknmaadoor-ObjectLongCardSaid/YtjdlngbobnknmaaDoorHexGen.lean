/- Two small laws that the walks of layer 2 lean on. -/
import Derived.Test.YtjdlngbobnknmaaDoorSepF
import Derived.Test.YtjdlngbobnknmaaDoorProg
import Derived.Laws.BitsAll
import Derived.BigQuiet
import Derived.Deep.QuietTactic
import Derived.BigRegion
import Derived.Deep.RegionHeld3
import Derived.StillTailTactics
namespace Go.Proofs.YtjdlngbobnknmaaDoor
set_option linter.all false
open Go.RowKit
/-- The walk stands still at a load. -/
theorem wpList_stop_load {P : Program} {ops : Array Oper} {Q : Exit → Act → World → Prop} {a : Act} {w : World} {rest : List Oper} {o : Oper} {ty : TypeId} {x : Operand} (_ho : o.op = .load ty x) (h : Stop (wpList P ops Q (o :: rest) a w)) : wpList P ops Q (o :: rest) a w := h
theorem info20 : (Tryd.prog.info? 25).map (fun i => i.size) = some 20 := by kernel_rfl
def z20 : Array Value := (List.replicate 20 (Value.int .u8 0)).toArray
theorem zero20 (w : World) : (zeroValue 25).run Tryd.prog w = .ok (.agg z20) w := by
  unfold z20; kernel_rfl
end Go.Proofs.YtjdlngbobnknmaaDoor
