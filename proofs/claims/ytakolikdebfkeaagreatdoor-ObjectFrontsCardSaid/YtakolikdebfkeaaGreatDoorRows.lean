/-
  NARROWER THAN 'FOR EVERY INPUT', by the rows' own cells (each row's printed sentence says how): ObjectOpens: laid · PackWrites: laid · PackReads: laid · ObjectFronts: laid · PackSmall: laid · PackIndexes: laid · PackFinds: laid.
  DERIVED. THE GIVEN ROWS OF THIS SEAT. 7 by the template 'for every input the law returns true; each argument reads behind the call as it read before'; 0 by the template 'total and deterministic' (their statements: YtakolikdebfkeaaGreatDoorTotals.lean).
  GIVEN WITH THE SEED: the statements are not yours to turn. If you find one false, say at which input.
  Laid BY PROGRAM, IN A SANDBOX (cutbox-rows.mjs): the forced cells as the released guide's own fill.sh prints them over the translation 776c26d4a4bb862e… (all of the seat's roots in one cut). By AI agents, Wed Nov 11 2026. No macro, syntax, notation, axiom, sorry.
-/
import Derived.Test.YtakolikdebfkeaaGreatDoorChecked
import GoSem.Claim
import GoSem.ClaimJoined
import GoSem.ClaimMapViews
import Derived.JoinedTies
import Derived.KernelRfl
namespace Go.Proofs.YtakolikdebfkeaaGreatDoor
/- THE CELL 'sum', in the pinned program and in every row, IS THE sha256 OF THE DUMP (.gsa) THAT YtakolikdebfkeaaGreatDoorProg.lean LOADS. Nothing in Lean hashes anything: it is a label: what it is worth is what the hold of that sum in a sandbox is worth. -/
noncomputable def Tryz.pinned : Pinned := { name := "ytakolikdebfkeaagreatdoor", sum := "776c26d4a4bb862e674f71a0a8154445592f875a2a5b0e68068377937c4f4475", checked := Tryz.checked }
namespace Rows
def none {H : Type} : Left H := { results := [], args := [] }

/- WHAT THE LISTED PACKAGE-LEVEL VARIABLES READ AS WHEN THE CALL BEGINS. Each datum BY PROGRAM (the guide's laid-datum.mjs) off the statement by which the dump's own 'gosem.cut.vars' lays the variable. In a bare row this is a premise. The card (YtakolikdebfkeaaGreatDoorCards.lean) ties it to the program's text. -/
def laid_math_bits_deBruijn32tab {H : Type} : DataW H := .agg [.lit (.int .u8 0), .lit (.int .u8 1), .lit (.int .u8 28), .lit (.int .u8 2), .lit (.int .u8 29), .lit (.int .u8 14), .lit (.int .u8 24), .lit (.int .u8 3), .lit (.int .u8 30), .lit (.int .u8 22), .lit (.int .u8 20), .lit (.int .u8 15), .lit (.int .u8 25), .lit (.int .u8 17), .lit (.int .u8 4), .lit (.int .u8 8), .lit (.int .u8 31), .lit (.int .u8 27), .lit (.int .u8 13), .lit (.int .u8 23), .lit (.int .u8 21), .lit (.int .u8 19), .lit (.int .u8 16), .lit (.int .u8 7), .lit (.int .u8 26), .lit (.int .u8 12), .lit (.int .u8 18), .lit (.int .u8 6), .lit (.int .u8 11), .lit (.int .u8 5), .lit (.int .u8 10), .lit (.int .u8 9)]
def laid_math_bits_deBruijn64tab {H : Type} : DataW H := .agg [.lit (.int .u8 0), .lit (.int .u8 1), .lit (.int .u8 56), .lit (.int .u8 2), .lit (.int .u8 57), .lit (.int .u8 49), .lit (.int .u8 28), .lit (.int .u8 3), .lit (.int .u8 61), .lit (.int .u8 58), .lit (.int .u8 42), .lit (.int .u8 50), .lit (.int .u8 38), .lit (.int .u8 29), .lit (.int .u8 17), .lit (.int .u8 4), .lit (.int .u8 62), .lit (.int .u8 47), .lit (.int .u8 59), .lit (.int .u8 36), .lit (.int .u8 45), .lit (.int .u8 43), .lit (.int .u8 51), .lit (.int .u8 22), .lit (.int .u8 53), .lit (.int .u8 39), .lit (.int .u8 33), .lit (.int .u8 30), .lit (.int .u8 24), .lit (.int .u8 18), .lit (.int .u8 12), .lit (.int .u8 5), .lit (.int .u8 63), .lit (.int .u8 55), .lit (.int .u8 48), .lit (.int .u8 27), .lit (.int .u8 60), .lit (.int .u8 41), .lit (.int .u8 37), .lit (.int .u8 16), .lit (.int .u8 46), .lit (.int .u8 35), .lit (.int .u8 44), .lit (.int .u8 21), .lit (.int .u8 52), .lit (.int .u8 32), .lit (.int .u8 23), .lit (.int .u8 11), .lit (.int .u8 54), .lit (.int .u8 26), .lit (.int .u8 40), .lit (.int .u8 15), .lit (.int .u8 34), .lit (.int .u8 20), .lit (.int .u8 31), .lit (.int .u8 10), .lit (.int .u8 25), .lit (.int .u8 14), .lit (.int .u8 19), .lit (.int .u8 9), .lit (.int .u8 13), .lit (.int .u8 8), .lit (.int .u8 7), .lit (.int .u8 6)]
def laid_internal_strconv_uint64pow10 {H : Type} : DataW H := .agg [.lit (.int .u64 1), .lit (.int .u64 10), .lit (.int .u64 100), .lit (.int .u64 1000), .lit (.int .u64 10000), .lit (.int .u64 100000), .lit (.int .u64 1000000), .lit (.int .u64 10000000), .lit (.int .u64 100000000), .lit (.int .u64 1000000000), .lit (.int .u64 10000000000), .lit (.int .u64 100000000000), .lit (.int .u64 1000000000000), .lit (.int .u64 10000000000000), .lit (.int .u64 100000000000000), .lit (.int .u64 1000000000000000), .lit (.int .u64 10000000000000000), .lit (.int .u64 100000000000000000), .lit (.int .u64 1000000000000000000), .lit (.int .u64 10000000000000000000)]
def laid_strconv_ErrRange {H : Type} : DataW H := .iface "*errors.errorString" (.ptr (.agg [.lit (.string [118, 97, 108, 117, 101, 32, 111, 117, 116, 32, 111, 102, 32, 114, 97, 110, 103, 101])]))
def laid_strconv_ErrSyntax {H : Type} : DataW H := .iface "*errors.errorString" (.ptr (.agg [.lit (.string [105, 110, 118, 97, 108, 105, 100, 32, 115, 121, 110, 116, 97, 120])]))

/-- 'tramwaylaw09.ObjectOpens': WHATEVER THE INPUT: true; the input reads as it did. -/
def objectOpensSpec : ChangeSpec := { name := "objectOpens", fn := fun _ => fun
  | [d] => { results := [.lit (.bool true)], args := [d] }
  | _ => none }
def objectOpensRow : OpenClaim := { program := "ytakolikdebfkeaagreatdoor", sum := "776c26d4a4bb862e674f71a0a8154445592f875a2a5b0e68068377937c4f4475", func := "tramway/tramwaylaw09.ObjectOpens", spec := "objectOpens", inPlace := ["internal/abi.NoEscape", "internal/bytealg.IndexByte", "internal/bytealg.Index"], unfollowed := true, recurses := true, named := ["internal/strconv.uint64pow10", "math/bits.deBruijn32tab", "math/bits.deBruijn64tab", "internal/bytealg.MaxLen", "strconv.ErrSyntax", "strconv.ErrRange"], plainKeys := false, apart := false, laid := [("math/bits.deBruijn32tab", laid_math_bits_deBruijn32tab), ("math/bits.deBruijn64tab", laid_math_bits_deBruijn64tab), ("internal/strconv.uint64pow10", laid_internal_strconv_uint64pow10), ("strconv.ErrRange", laid_strconv_ErrRange), ("strconv.ErrSyntax", laid_strconv_ErrSyntax)] }
def ObjectOpensSaid : Prop := objectOpensRow.holds Tryz.pinned (OpenSpec.ofChange objectOpensSpec)

/-- ITS FALSE NEIGHBOUR: 'it returns false'. Refute it at one input. -/
def objectOpensWrong : ChangeSpec := { name := "objectOpens", fn := fun _ => fun
  | [d] => { results := [.lit (.bool false)], args := [d] }
  | _ => none }
def ObjectOpensWrongFalsely : Prop := objectOpensRow.holds Tryz.pinned (OpenSpec.ofChange objectOpensWrong)

/-- 'tramwaylaw12.PackWrites': WHATEVER THE INPUT: true; the input reads as it did. -/
def packWritesSpec : ChangeSpec := { name := "packWrites", fn := fun _ => fun
  | [d] => { results := [.lit (.bool true)], args := [d] }
  | _ => none }
def packWritesRow : OpenClaim := { program := "ytakolikdebfkeaagreatdoor", sum := "776c26d4a4bb862e674f71a0a8154445592f875a2a5b0e68068377937c4f4475", func := "tramway/tramwaylaw12.PackWrites", spec := "packWrites", inPlace := ["internal/bytealg.Compare"], unfollowed := true, recurses := true, named := ["internal/strconv.uint64pow10", "math/bits.deBruijn32tab", "math/bits.deBruijn64tab"], plainKeys := false, apart := false, laid := [("math/bits.deBruijn32tab", laid_math_bits_deBruijn32tab), ("math/bits.deBruijn64tab", laid_math_bits_deBruijn64tab), ("internal/strconv.uint64pow10", laid_internal_strconv_uint64pow10)] }
def PackWritesSaid : Prop := packWritesRow.holds Tryz.pinned (OpenSpec.ofChange packWritesSpec)

/-- ITS FALSE NEIGHBOUR: 'it returns false'. Refute it at one input. -/
def packWritesWrong : ChangeSpec := { name := "packWrites", fn := fun _ => fun
  | [d] => { results := [.lit (.bool false)], args := [d] }
  | _ => none }
def PackWritesWrongFalsely : Prop := packWritesRow.holds Tryz.pinned (OpenSpec.ofChange packWritesWrong)

/-- 'tramwaylaw12.PackReads': WHATEVER THE INPUT: true; the input reads as it did. -/
def packReadsSpec : ChangeSpec := { name := "packReads", fn := fun _ => fun
  | [d1, d2, d3, d4] => { results := [.lit (.bool true)], args := [d1, d2, d3, d4] }
  | _ => none }
def packReadsRow : OpenClaim := { program := "ytakolikdebfkeaagreatdoor", sum := "776c26d4a4bb862e674f71a0a8154445592f875a2a5b0e68068377937c4f4475", func := "tramway/tramwaylaw12.PackReads", spec := "packReads", inPlace := ["internal/bytealg.Compare"], unfollowed := true, recurses := true, named := ["internal/strconv.uint64pow10", "math/bits.deBruijn32tab", "math/bits.deBruijn64tab"], plainKeys := false, apart := false, laid := [("math/bits.deBruijn32tab", laid_math_bits_deBruijn32tab), ("math/bits.deBruijn64tab", laid_math_bits_deBruijn64tab), ("internal/strconv.uint64pow10", laid_internal_strconv_uint64pow10)] }
def PackReadsSaid : Prop := packReadsRow.holds Tryz.pinned (OpenSpec.ofChange packReadsSpec)

/-- ITS FALSE NEIGHBOUR: 'it returns false'. Refute it at one input. -/
def packReadsWrong : ChangeSpec := { name := "packReads", fn := fun _ => fun
  | [d1, d2, d3, d4] => { results := [.lit (.bool false)], args := [d1, d2, d3, d4] }
  | _ => none }
def PackReadsWrongFalsely : Prop := packReadsRow.holds Tryz.pinned (OpenSpec.ofChange packReadsWrong)

/-- 'tramwaylaw09.ObjectFronts': WHATEVER THE INPUT: true; the input reads as it did. -/
def objectFrontsSpec : ChangeSpec := { name := "objectFronts", fn := fun _ => fun
  | [d1, d2] => { results := [.lit (.bool true)], args := [d1, d2] }
  | _ => none }
def objectFrontsRow : OpenClaim := { program := "ytakolikdebfkeaagreatdoor", sum := "776c26d4a4bb862e674f71a0a8154445592f875a2a5b0e68068377937c4f4475", func := "tramway/tramwaylaw09.ObjectFronts", spec := "objectFronts", inPlace := ["internal/bytealg.IndexByte", "internal/bytealg.Index", "internal/abi.NoEscape"], unfollowed := true, recurses := true, named := ["internal/bytealg.MaxLen", "strconv.ErrSyntax", "strconv.ErrRange", "internal/strconv.uint64pow10", "math/bits.deBruijn32tab", "math/bits.deBruijn64tab"], plainKeys := false, apart := false, laid := [("math/bits.deBruijn32tab", laid_math_bits_deBruijn32tab), ("math/bits.deBruijn64tab", laid_math_bits_deBruijn64tab), ("internal/strconv.uint64pow10", laid_internal_strconv_uint64pow10), ("strconv.ErrRange", laid_strconv_ErrRange), ("strconv.ErrSyntax", laid_strconv_ErrSyntax)] }
def ObjectFrontsSaid : Prop := objectFrontsRow.holds Tryz.pinned (OpenSpec.ofChange objectFrontsSpec)

/-- ITS FALSE NEIGHBOUR: 'it returns false'. Refute it at one input. -/
def objectFrontsWrong : ChangeSpec := { name := "objectFronts", fn := fun _ => fun
  | [d1, d2] => { results := [.lit (.bool false)], args := [d1, d2] }
  | _ => none }
def ObjectFrontsWrongFalsely : Prop := objectFrontsRow.holds Tryz.pinned (OpenSpec.ofChange objectFrontsWrong)

/-- 'tramwaylaw12.PackSmall': WHATEVER THE INPUT: true; the input reads as it did. -/
def packSmallSpec : ChangeSpec := { name := "packSmall", fn := fun _ => fun
  | [d] => { results := [.lit (.bool true)], args := [d] }
  | _ => none }
def packSmallRow : OpenClaim := { program := "ytakolikdebfkeaagreatdoor", sum := "776c26d4a4bb862e674f71a0a8154445592f875a2a5b0e68068377937c4f4475", func := "tramway/tramwaylaw12.PackSmall", spec := "packSmall", inPlace := ["internal/bytealg.Compare"], unfollowed := true, recurses := true, named := ["internal/strconv.uint64pow10", "math/bits.deBruijn32tab", "math/bits.deBruijn64tab"], plainKeys := false, apart := false, laid := [("math/bits.deBruijn32tab", laid_math_bits_deBruijn32tab), ("math/bits.deBruijn64tab", laid_math_bits_deBruijn64tab), ("internal/strconv.uint64pow10", laid_internal_strconv_uint64pow10)] }
def PackSmallSaid : Prop := packSmallRow.holds Tryz.pinned (OpenSpec.ofChange packSmallSpec)

/-- ITS FALSE NEIGHBOUR: 'it returns false'. Refute it at one input. -/
def packSmallWrong : ChangeSpec := { name := "packSmall", fn := fun _ => fun
  | [d] => { results := [.lit (.bool false)], args := [d] }
  | _ => none }
def PackSmallWrongFalsely : Prop := packSmallRow.holds Tryz.pinned (OpenSpec.ofChange packSmallWrong)

/-- 'tramwaylaw12.PackIndexes': WHATEVER THE INPUT: true; the input reads as it did. -/
def packIndexesSpec : ChangeSpec := { name := "packIndexes", fn := fun _ => fun
  | [d1, d2, d3, d4, d5] => { results := [.lit (.bool true)], args := [d1, d2, d3, d4, d5] }
  | _ => none }
def packIndexesRow : OpenClaim := { program := "ytakolikdebfkeaagreatdoor", sum := "776c26d4a4bb862e674f71a0a8154445592f875a2a5b0e68068377937c4f4475", func := "tramway/tramwaylaw12.PackIndexes", spec := "packIndexes", inPlace := ["internal/bytealg.Compare"], unfollowed := true, recurses := true, named := ["internal/strconv.uint64pow10", "math/bits.deBruijn32tab", "math/bits.deBruijn64tab"], plainKeys := false, apart := false, laid := [("math/bits.deBruijn32tab", laid_math_bits_deBruijn32tab), ("math/bits.deBruijn64tab", laid_math_bits_deBruijn64tab), ("internal/strconv.uint64pow10", laid_internal_strconv_uint64pow10)] }
def PackIndexesSaid : Prop := packIndexesRow.holds Tryz.pinned (OpenSpec.ofChange packIndexesSpec)

/-- ITS FALSE NEIGHBOUR: 'it returns false'. Refute it at one input. -/
def packIndexesWrong : ChangeSpec := { name := "packIndexes", fn := fun _ => fun
  | [d1, d2, d3, d4, d5] => { results := [.lit (.bool false)], args := [d1, d2, d3, d4, d5] }
  | _ => none }
def PackIndexesWrongFalsely : Prop := packIndexesRow.holds Tryz.pinned (OpenSpec.ofChange packIndexesWrong)

/-- 'tramwaylaw12.PackFinds': WHATEVER THE INPUT: true; the input reads as it did. -/
def packFindsSpec : ChangeSpec := { name := "packFinds", fn := fun _ => fun
  | [d1, d2, d3] => { results := [.lit (.bool true)], args := [d1, d2, d3] }
  | _ => none }
def packFindsRow : OpenClaim := { program := "ytakolikdebfkeaagreatdoor", sum := "776c26d4a4bb862e674f71a0a8154445592f875a2a5b0e68068377937c4f4475", func := "tramway/tramwaylaw12.PackFinds", spec := "packFinds", inPlace := ["internal/bytealg.Compare"], unfollowed := true, recurses := true, named := ["internal/strconv.uint64pow10", "math/bits.deBruijn32tab", "math/bits.deBruijn64tab"], plainKeys := false, apart := false, laid := [("math/bits.deBruijn32tab", laid_math_bits_deBruijn32tab), ("math/bits.deBruijn64tab", laid_math_bits_deBruijn64tab), ("internal/strconv.uint64pow10", laid_internal_strconv_uint64pow10)] }
def PackFindsSaid : Prop := packFindsRow.holds Tryz.pinned (OpenSpec.ofChange packFindsSpec)

/-- ITS FALSE NEIGHBOUR: 'it returns false'. Refute it at one input. -/
def packFindsWrong : ChangeSpec := { name := "packFinds", fn := fun _ => fun
  | [d1, d2, d3] => { results := [.lit (.bool false)], args := [d1, d2, d3] }
  | _ => none }
def PackFindsWrongFalsely : Prop := packFindsRow.holds Tryz.pinned (OpenSpec.ofChange packFindsWrong)

/- THE SECOND FORM. 'bulk': how many values and letters a reading holds, each counted each time it is reached (what is shared counts as often as it is met; a slice's spare places count too). A statement '..UptoSaid' is the law's where the arguments, and the package variables that the reading takes, are together of bulk at most 1048576: NARROWER than '..Said'. Prove '..Said' where nothing that the law and all that it calls make is longer than what came in: it says more and counts as full. Else prove '..UptoSaid'. A law counts once. -/
mutual
def uptoBulk {H : Type} : DataW H → Nat
  | .lit (.string bytes) => bytes.length + 1
  | .lit _ => 1
  | .nil => 1
  | .ptr d => uptoBulk d + 1
  | .slice elems spare => uptoBulkAll elems + uptoBulkAll spare + 1
  | .agg parts => uptoBulkAll parts + 1
  | .iface _ d => uptoBulk d + 1
  | .map entries => uptoBulkEntries entries + 1
  | .held _ => 1
def uptoBulkAll {H : Type} : List (DataW H) → Nat
  | [] => 0
  | d :: r => uptoBulk d + uptoBulkAll r
def uptoBulkEntries {H : Type} : List (Lit × DataW H) → Nat
  | [] => 0
  | x :: r => uptoBulkEntry x + uptoBulkEntries r
def uptoBulkEntry {H : Type} : Lit × DataW H → Nat
  | (.string bytes, d) => bytes.length + uptoBulk d + 1
  | (_, d) => uptoBulk d + 1
 end
def uptoSmall : (H : Type) → List (DataW H) → Bool := fun _ ds => decide (uptoBulkAll ds ≤ 1048576)
def OpenSpec.upto (s : _root_.Go.ChangeSpec) : _root_.Go.OpenSpec := { _root_.Go.OpenSpec.ofChange s with cond := some uptoSmall }

/-- 'tramwaylaw09.ObjectOpens', WHERE WHAT IT READS IS OF BULK AT MOST 1048576: true; the input reads as it did. -/
def objectOpensUptoRow : OpenClaim := { program := "ytakolikdebfkeaagreatdoor", sum := "776c26d4a4bb862e674f71a0a8154445592f875a2a5b0e68068377937c4f4475", func := "tramway/tramwaylaw09.ObjectOpens", spec := "objectOpens", inPlace := ["internal/abi.NoEscape", "internal/bytealg.IndexByte", "internal/bytealg.Index"], unfollowed := true, recurses := true, named := ["internal/strconv.uint64pow10", "math/bits.deBruijn32tab", "math/bits.deBruijn64tab", "internal/bytealg.MaxLen", "strconv.ErrSyntax", "strconv.ErrRange"], plainKeys := false, apart := false, laid := [("math/bits.deBruijn32tab", laid_math_bits_deBruijn32tab), ("math/bits.deBruijn64tab", laid_math_bits_deBruijn64tab), ("internal/strconv.uint64pow10", laid_internal_strconv_uint64pow10), ("strconv.ErrRange", laid_strconv_ErrRange), ("strconv.ErrSyntax", laid_strconv_ErrSyntax)], narrowed := true }
def ObjectOpensUptoSaid : Prop := objectOpensUptoRow.holds Tryz.pinned (OpenSpec.upto objectOpensSpec)

/-- 'tramwaylaw12.PackWrites', WHERE WHAT IT READS IS OF BULK AT MOST 1048576: true; the input reads as it did. -/
def packWritesUptoRow : OpenClaim := { program := "ytakolikdebfkeaagreatdoor", sum := "776c26d4a4bb862e674f71a0a8154445592f875a2a5b0e68068377937c4f4475", func := "tramway/tramwaylaw12.PackWrites", spec := "packWrites", inPlace := ["internal/bytealg.Compare"], unfollowed := true, recurses := true, named := ["internal/strconv.uint64pow10", "math/bits.deBruijn32tab", "math/bits.deBruijn64tab"], plainKeys := false, apart := false, laid := [("math/bits.deBruijn32tab", laid_math_bits_deBruijn32tab), ("math/bits.deBruijn64tab", laid_math_bits_deBruijn64tab), ("internal/strconv.uint64pow10", laid_internal_strconv_uint64pow10)], narrowed := true }
def PackWritesUptoSaid : Prop := packWritesUptoRow.holds Tryz.pinned (OpenSpec.upto packWritesSpec)

/-- 'tramwaylaw12.PackReads', WHERE WHAT IT READS IS OF BULK AT MOST 1048576: true; the input reads as it did. -/
def packReadsUptoRow : OpenClaim := { program := "ytakolikdebfkeaagreatdoor", sum := "776c26d4a4bb862e674f71a0a8154445592f875a2a5b0e68068377937c4f4475", func := "tramway/tramwaylaw12.PackReads", spec := "packReads", inPlace := ["internal/bytealg.Compare"], unfollowed := true, recurses := true, named := ["internal/strconv.uint64pow10", "math/bits.deBruijn32tab", "math/bits.deBruijn64tab"], plainKeys := false, apart := false, laid := [("math/bits.deBruijn32tab", laid_math_bits_deBruijn32tab), ("math/bits.deBruijn64tab", laid_math_bits_deBruijn64tab), ("internal/strconv.uint64pow10", laid_internal_strconv_uint64pow10)], narrowed := true }
def PackReadsUptoSaid : Prop := packReadsUptoRow.holds Tryz.pinned (OpenSpec.upto packReadsSpec)

/-- 'tramwaylaw09.ObjectFronts', WHERE WHAT IT READS IS OF BULK AT MOST 1048576: true; the input reads as it did. -/
def objectFrontsUptoRow : OpenClaim := { program := "ytakolikdebfkeaagreatdoor", sum := "776c26d4a4bb862e674f71a0a8154445592f875a2a5b0e68068377937c4f4475", func := "tramway/tramwaylaw09.ObjectFronts", spec := "objectFronts", inPlace := ["internal/bytealg.IndexByte", "internal/bytealg.Index", "internal/abi.NoEscape"], unfollowed := true, recurses := true, named := ["internal/bytealg.MaxLen", "strconv.ErrSyntax", "strconv.ErrRange", "internal/strconv.uint64pow10", "math/bits.deBruijn32tab", "math/bits.deBruijn64tab"], plainKeys := false, apart := false, laid := [("math/bits.deBruijn32tab", laid_math_bits_deBruijn32tab), ("math/bits.deBruijn64tab", laid_math_bits_deBruijn64tab), ("internal/strconv.uint64pow10", laid_internal_strconv_uint64pow10), ("strconv.ErrRange", laid_strconv_ErrRange), ("strconv.ErrSyntax", laid_strconv_ErrSyntax)], narrowed := true }
def ObjectFrontsUptoSaid : Prop := objectFrontsUptoRow.holds Tryz.pinned (OpenSpec.upto objectFrontsSpec)

/-- 'tramwaylaw12.PackSmall', WHERE WHAT IT READS IS OF BULK AT MOST 1048576: true; the input reads as it did. -/
def packSmallUptoRow : OpenClaim := { program := "ytakolikdebfkeaagreatdoor", sum := "776c26d4a4bb862e674f71a0a8154445592f875a2a5b0e68068377937c4f4475", func := "tramway/tramwaylaw12.PackSmall", spec := "packSmall", inPlace := ["internal/bytealg.Compare"], unfollowed := true, recurses := true, named := ["internal/strconv.uint64pow10", "math/bits.deBruijn32tab", "math/bits.deBruijn64tab"], plainKeys := false, apart := false, laid := [("math/bits.deBruijn32tab", laid_math_bits_deBruijn32tab), ("math/bits.deBruijn64tab", laid_math_bits_deBruijn64tab), ("internal/strconv.uint64pow10", laid_internal_strconv_uint64pow10)], narrowed := true }
def PackSmallUptoSaid : Prop := packSmallUptoRow.holds Tryz.pinned (OpenSpec.upto packSmallSpec)

/-- 'tramwaylaw12.PackIndexes', WHERE WHAT IT READS IS OF BULK AT MOST 1048576: true; the input reads as it did. -/
def packIndexesUptoRow : OpenClaim := { program := "ytakolikdebfkeaagreatdoor", sum := "776c26d4a4bb862e674f71a0a8154445592f875a2a5b0e68068377937c4f4475", func := "tramway/tramwaylaw12.PackIndexes", spec := "packIndexes", inPlace := ["internal/bytealg.Compare"], unfollowed := true, recurses := true, named := ["internal/strconv.uint64pow10", "math/bits.deBruijn32tab", "math/bits.deBruijn64tab"], plainKeys := false, apart := false, laid := [("math/bits.deBruijn32tab", laid_math_bits_deBruijn32tab), ("math/bits.deBruijn64tab", laid_math_bits_deBruijn64tab), ("internal/strconv.uint64pow10", laid_internal_strconv_uint64pow10)], narrowed := true }
def PackIndexesUptoSaid : Prop := packIndexesUptoRow.holds Tryz.pinned (OpenSpec.upto packIndexesSpec)

/-- 'tramwaylaw12.PackFinds', WHERE WHAT IT READS IS OF BULK AT MOST 1048576: true; the input reads as it did. -/
def packFindsUptoRow : OpenClaim := { program := "ytakolikdebfkeaagreatdoor", sum := "776c26d4a4bb862e674f71a0a8154445592f875a2a5b0e68068377937c4f4475", func := "tramway/tramwaylaw12.PackFinds", spec := "packFinds", inPlace := ["internal/bytealg.Compare"], unfollowed := true, recurses := true, named := ["internal/strconv.uint64pow10", "math/bits.deBruijn32tab", "math/bits.deBruijn64tab"], plainKeys := false, apart := false, laid := [("math/bits.deBruijn32tab", laid_math_bits_deBruijn32tab), ("math/bits.deBruijn64tab", laid_math_bits_deBruijn64tab), ("internal/strconv.uint64pow10", laid_internal_strconv_uint64pow10)], narrowed := true }
def PackFindsUptoSaid : Prop := packFindsUptoRow.holds Tryz.pinned (OpenSpec.upto packFindsSpec)

end Rows
end Go.Proofs.YtakolikdebfkeaaGreatDoor
