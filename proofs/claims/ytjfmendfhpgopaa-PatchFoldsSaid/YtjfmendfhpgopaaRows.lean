/-
  No cell of these rows narrows 'for every input' (looked for: loops, veiled, ifaces, maps, wideKeys, modest, calm, conditions, laid).
  DERIVED. THE GIVEN ROWS OF THIS SEAT. 5 by the template 'for every input the law returns true; each argument reads behind the call as it read before'; 0 by the template 'total and deterministic' (their statements: YtjfmendfhpgopaaTotals.lean).
  GIVEN WITH THE SEED: the statements are not yours to turn. If you find one false, say at which input.
  Laid BY PROGRAM, IN A SANDBOX (cutbox-rows.mjs): the forced cells as the released guide's own fill.sh prints them over the translation 690b7814c87c15d4… (all of the seat's roots in one cut). By AI agents, Wed Nov 11 2026. No macro, syntax, notation, axiom, sorry.
-/
import Derived.Test.YtjfmendfhpgopaaChecked
import GoSem.Claim
import GoSem.ClaimJoined
import GoSem.ClaimMapViews
import Derived.JoinedTies
import Derived.KernelRfl
namespace Go.Proofs.Ytjfmendfhpgopaa
/- THE CELL 'sum', in the pinned program and in every row, IS THE sha256 OF THE DUMP (.gsa) THAT YtjfmendfhpgopaaProg.lean LOADS. Nothing in Lean hashes anything: it is a label: what it is worth is what the hold of that sum in a sandbox is worth. -/
noncomputable def Try.pinned : Pinned := { name := "ytjfmendfhpgopaa", sum := "690b7814c87c15d4cd6ace098c3be83c6f5555fffb90fc59d2e2cf383c3474aa", checked := Try.checked }
namespace Rows
def none {H : Type} : Left H := { results := [], args := [] }

/-- 'tramwaylaw15.PatchApplies': WHATEVER THE INPUT: true; the input reads as it did. -/
def patchAppliesSpec : ChangeSpec := { name := "patchApplies", fn := fun _ => fun
  | [d1, d2, d3, d4] => { results := [.lit (.bool true)], args := [d1, d2, d3, d4] }
  | _ => none }
def patchAppliesRow : OpenClaim := { program := "ytjfmendfhpgopaa", sum := "690b7814c87c15d4cd6ace098c3be83c6f5555fffb90fc59d2e2cf383c3474aa", func := "tramway/tramwaylaw15.PatchApplies", spec := "patchApplies", unfollowed := true, recurses := true, apart := false }
def PatchAppliesSaid : Prop := patchAppliesRow.holds Try.pinned (OpenSpec.ofChange patchAppliesSpec)

/-- ITS FALSE NEIGHBOUR: 'it returns false'. Refute it at one input. -/
def patchAppliesWrong : ChangeSpec := { name := "patchApplies", fn := fun _ => fun
  | [d1, d2, d3, d4] => { results := [.lit (.bool false)], args := [d1, d2, d3, d4] }
  | _ => none }
def PatchAppliesWrongFalsely : Prop := patchAppliesRow.holds Try.pinned (OpenSpec.ofChange patchAppliesWrong)

/-- 'tramwaylaw15.PatchParts': WHATEVER THE INPUT: true; the input reads as it did. -/
def patchPartsSpec : ChangeSpec := { name := "patchParts", fn := fun _ => fun
  | [d1, d2, d3, d4, d5, d6, d7] => { results := [.lit (.bool true)], args := [d1, d2, d3, d4, d5, d6, d7] }
  | _ => none }
def patchPartsRow : OpenClaim := { program := "ytjfmendfhpgopaa", sum := "690b7814c87c15d4cd6ace098c3be83c6f5555fffb90fc59d2e2cf383c3474aa", func := "tramway/tramwaylaw15.PatchParts", spec := "patchParts", unfollowed := true, recurses := true, apart := false }
def PatchPartsSaid : Prop := patchPartsRow.holds Try.pinned (OpenSpec.ofChange patchPartsSpec)

/-- ITS FALSE NEIGHBOUR: 'it returns false'. Refute it at one input. -/
def patchPartsWrong : ChangeSpec := { name := "patchParts", fn := fun _ => fun
  | [d1, d2, d3, d4, d5, d6, d7] => { results := [.lit (.bool false)], args := [d1, d2, d3, d4, d5, d6, d7] }
  | _ => none }
def PatchPartsWrongFalsely : Prop := patchPartsRow.holds Try.pinned (OpenSpec.ofChange patchPartsWrong)

/-- 'tramwaylaw15.PatchEnds': WHATEVER THE INPUT: true; the input reads as it did. -/
def patchEndsSpec : ChangeSpec := { name := "patchEnds", fn := fun _ => fun
  | [d1, d2, d3, d4] => { results := [.lit (.bool true)], args := [d1, d2, d3, d4] }
  | _ => none }
def patchEndsRow : OpenClaim := { program := "ytjfmendfhpgopaa", sum := "690b7814c87c15d4cd6ace098c3be83c6f5555fffb90fc59d2e2cf383c3474aa", func := "tramway/tramwaylaw15.PatchEnds", spec := "patchEnds", unfollowed := true, recurses := true, apart := false }
def PatchEndsSaid : Prop := patchEndsRow.holds Try.pinned (OpenSpec.ofChange patchEndsSpec)

/-- ITS FALSE NEIGHBOUR: 'it returns false'. Refute it at one input. -/
def patchEndsWrong : ChangeSpec := { name := "patchEnds", fn := fun _ => fun
  | [d1, d2, d3, d4] => { results := [.lit (.bool false)], args := [d1, d2, d3, d4] }
  | _ => none }
def PatchEndsWrongFalsely : Prop := patchEndsRow.holds Try.pinned (OpenSpec.ofChange patchEndsWrong)

/-- 'tramwaylaw15.PatchMakes': WHATEVER THE INPUT: true; the input reads as it did. -/
def patchMakesSpec : ChangeSpec := { name := "patchMakes", fn := fun _ => fun
  | [d1, d2] => { results := [.lit (.bool true)], args := [d1, d2] }
  | _ => none }
def patchMakesRow : OpenClaim := { program := "ytjfmendfhpgopaa", sum := "690b7814c87c15d4cd6ace098c3be83c6f5555fffb90fc59d2e2cf383c3474aa", func := "tramway/tramwaylaw15.PatchMakes", spec := "patchMakes", unfollowed := true, recurses := true, apart := false }
def PatchMakesSaid : Prop := patchMakesRow.holds Try.pinned (OpenSpec.ofChange patchMakesSpec)

/-- ITS FALSE NEIGHBOUR: 'it returns false'. Refute it at one input. -/
def patchMakesWrong : ChangeSpec := { name := "patchMakes", fn := fun _ => fun
  | [d1, d2] => { results := [.lit (.bool false)], args := [d1, d2] }
  | _ => none }
def PatchMakesWrongFalsely : Prop := patchMakesRow.holds Try.pinned (OpenSpec.ofChange patchMakesWrong)

/-- 'tramwaylaw15.PatchFolds': WHATEVER THE INPUT: true; the input reads as it did. -/
def patchFoldsSpec : ChangeSpec := { name := "patchFolds", fn := fun _ => fun
  | [d1, d2, d3] => { results := [.lit (.bool true)], args := [d1, d2, d3] }
  | _ => none }
def patchFoldsRow : OpenClaim := { program := "ytjfmendfhpgopaa", sum := "690b7814c87c15d4cd6ace098c3be83c6f5555fffb90fc59d2e2cf383c3474aa", func := "tramway/tramwaylaw15.PatchFolds", spec := "patchFolds", unfollowed := true, recurses := true, apart := false }
def PatchFoldsSaid : Prop := patchFoldsRow.holds Try.pinned (OpenSpec.ofChange patchFoldsSpec)

/-- ITS FALSE NEIGHBOUR: 'it returns false'. Refute it at one input. -/
def patchFoldsWrong : ChangeSpec := { name := "patchFolds", fn := fun _ => fun
  | [d1, d2, d3] => { results := [.lit (.bool false)], args := [d1, d2, d3] }
  | _ => none }
def PatchFoldsWrongFalsely : Prop := patchFoldsRow.holds Try.pinned (OpenSpec.ofChange patchFoldsWrong)

/- THE SECOND FORM. 'bulk': how many values and letters a reading holds, each counted each time it is reached (what is shared counts as often as it is met; a slice's spare places count too). A statement '..UptoSaid' is the law's where the arguments, and the package variables that the reading takes, are together of bulk at most 1048576: NARROWER than '..Said'. Prove '..Said' where nothing that the law and all that it calls make is longer than what came in: it says more and counts as full. Else prove '..UptoSaid'. A law counts once. -/
mutual
def uptoBulk {H : Type} : DataW H → Nat
  | .lit (.string bytes) => bytes.length + 1
  | .lit _ => 1
  | .nil => 1
  | .ptr d => uptoBulk d + 1
  | .slice elems spare => uptoBulkAll elems + uptoBulkAll spare + 1
  | .agg parts => uptoBulkAll parts + 1
  | .iface _ d => uptoBulk d + 1
  | .map entries => uptoBulkEntries entries + 1
  | .held _ => 1
def uptoBulkAll {H : Type} : List (DataW H) → Nat
  | [] => 0
  | d :: r => uptoBulk d + uptoBulkAll r
def uptoBulkEntries {H : Type} : List (Lit × DataW H) → Nat
  | [] => 0
  | x :: r => uptoBulkEntry x + uptoBulkEntries r
def uptoBulkEntry {H : Type} : Lit × DataW H → Nat
  | (.string bytes, d) => bytes.length + uptoBulk d + 1
  | (_, d) => uptoBulk d + 1
 end
def uptoSmall : (H : Type) → List (DataW H) → Bool := fun _ ds => decide (uptoBulkAll ds ≤ 1048576)
def OpenSpec.upto (s : _root_.Go.ChangeSpec) : _root_.Go.OpenSpec := { _root_.Go.OpenSpec.ofChange s with cond := some uptoSmall }

/-- 'tramwaylaw15.PatchApplies', WHERE WHAT IT READS IS OF BULK AT MOST 1048576: true; the input reads as it did. -/
def patchAppliesUptoRow : OpenClaim := { program := "ytjfmendfhpgopaa", sum := "690b7814c87c15d4cd6ace098c3be83c6f5555fffb90fc59d2e2cf383c3474aa", func := "tramway/tramwaylaw15.PatchApplies", spec := "patchApplies", unfollowed := true, recurses := true, apart := false, narrowed := true }
def PatchAppliesUptoSaid : Prop := patchAppliesUptoRow.holds Try.pinned (OpenSpec.upto patchAppliesSpec)

/-- 'tramwaylaw15.PatchParts', WHERE WHAT IT READS IS OF BULK AT MOST 1048576: true; the input reads as it did. -/
def patchPartsUptoRow : OpenClaim := { program := "ytjfmendfhpgopaa", sum := "690b7814c87c15d4cd6ace098c3be83c6f5555fffb90fc59d2e2cf383c3474aa", func := "tramway/tramwaylaw15.PatchParts", spec := "patchParts", unfollowed := true, recurses := true, apart := false, narrowed := true }
def PatchPartsUptoSaid : Prop := patchPartsUptoRow.holds Try.pinned (OpenSpec.upto patchPartsSpec)

/-- 'tramwaylaw15.PatchEnds', WHERE WHAT IT READS IS OF BULK AT MOST 1048576: true; the input reads as it did. -/
def patchEndsUptoRow : OpenClaim := { program := "ytjfmendfhpgopaa", sum := "690b7814c87c15d4cd6ace098c3be83c6f5555fffb90fc59d2e2cf383c3474aa", func := "tramway/tramwaylaw15.PatchEnds", spec := "patchEnds", unfollowed := true, recurses := true, apart := false, narrowed := true }
def PatchEndsUptoSaid : Prop := patchEndsUptoRow.holds Try.pinned (OpenSpec.upto patchEndsSpec)

/-- 'tramwaylaw15.PatchMakes', WHERE WHAT IT READS IS OF BULK AT MOST 1048576: true; the input reads as it did. -/
def patchMakesUptoRow : OpenClaim := { program := "ytjfmendfhpgopaa", sum := "690b7814c87c15d4cd6ace098c3be83c6f5555fffb90fc59d2e2cf383c3474aa", func := "tramway/tramwaylaw15.PatchMakes", spec := "patchMakes", unfollowed := true, recurses := true, apart := false, narrowed := true }
def PatchMakesUptoSaid : Prop := patchMakesUptoRow.holds Try.pinned (OpenSpec.upto patchMakesSpec)

/-- 'tramwaylaw15.PatchFolds', WHERE WHAT IT READS IS OF BULK AT MOST 1048576: true; the input reads as it did. -/
def patchFoldsUptoRow : OpenClaim := { program := "ytjfmendfhpgopaa", sum := "690b7814c87c15d4cd6ace098c3be83c6f5555fffb90fc59d2e2cf383c3474aa", func := "tramway/tramwaylaw15.PatchFolds", spec := "patchFolds", unfollowed := true, recurses := true, apart := false, narrowed := true }
def PatchFoldsUptoSaid : Prop := patchFoldsUptoRow.holds Try.pinned (OpenSpec.upto patchFoldsSpec)

end Rows
end Go.Proofs.Ytjfmendfhpgopaa
