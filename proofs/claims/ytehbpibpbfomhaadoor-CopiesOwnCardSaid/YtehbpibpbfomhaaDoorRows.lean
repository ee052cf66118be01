/-
  NARROWER THAN 'FOR EVERY INPUT', by the rows' own cells (each row's printed sentence says how): CopiesPrints: laid · CopiesParses: laid · CopiesBack: laid · CopiesOwn: laid · CopiesPlain: laid.
  DERIVED. THE GIVEN ROWS OF THIS SEAT. 5 by the template 'for every input the law returns true; each argument reads behind the call as it read before'; 0 by the template 'total and deterministic' (their statements: YtehbpibpbfomhaaDoorTotals.lean).
  GIVEN WITH THE SEED: the statements are not yours to turn. If you find one false, say at which input.
  Laid BY PROGRAM, IN A SANDBOX (cutbox-rows.mjs): the forced cells as the released guide's own fill.sh prints them over the translation 0e39b6cfbf2fa8c3… (all of the seat's roots in one cut). By AI agents, Wed Nov 11 2026. No macro, syntax, notation, axiom, sorry.
-/
import Derived.Test.YtehbpibpbfomhaaDoorChecked
import GoSem.PinnedTables
import GoSem.Claim
import GoSem.ClaimJoined
import GoSem.ClaimMapViews
import Derived.JoinedTies
import Derived.KernelRfl
namespace Go.Proofs.YtehbpibpbfomhaaDoor
/- THE CELL 'sum', in the pinned program and in every row, IS THE sha256 OF THE DUMP (.gsa) THAT YtehbpibpbfomhaaDoorProg.lean LOADS. Nothing in Lean hashes anything: it is a label: what it is worth is what the hold of that sum in a sandbox is worth. -/
noncomputable def Tryd.pinned : Pinned := { name := "ytehbpibpbfomhaadoor", sum := "0e39b6cfbf2fa8c3c5e6b20182c019ef64797b553689dc929df4b10c1a4051ab", checked := Tryd.checked }
namespace Rows
def none {H : Type} : Left H := { results := [], args := [] }

/- WHAT THE LISTED PACKAGE-LEVEL VARIABLES READ AS WHEN THE CALL BEGINS. Each datum BY PROGRAM (the guide's laid-datum.mjs) off the statement by which the dump's own 'gosem.cut.vars' lays the variable. In a bare row this is a premise. The card (YtehbpibpbfomhaaDoorCards.lean) ties it to the program's text. -/
def laid_unicode_utf8_acceptRanges {H : Type} : DataW H := .agg [.agg [.lit (.int .u8 128), .lit (.int .u8 191)], .agg [.lit (.int .u8 160), .lit (.int .u8 191)], .agg [.lit (.int .u8 128), .lit (.int .u8 159)], .agg [.lit (.int .u8 144), .lit (.int .u8 191)], .agg [.lit (.int .u8 128), .lit (.int .u8 143)], .agg [.lit (.int .u8 0), .lit (.int .u8 0)], .agg [.lit (.int .u8 0), .lit (.int .u8 0)], .agg [.lit (.int .u8 0), .lit (.int .u8 0)], .agg [.lit (.int .u8 0), .lit (.int .u8 0)], .agg [.lit (.int .u8 0), .lit (.int .u8 0)], .agg [.lit (.int .u8 0), .lit (.int .u8 0)], .agg [.lit (.int .u8 0), .lit (.int .u8 0)], .agg [.lit (.int .u8 0), .lit (.int .u8 0)], .agg [.lit (.int .u8 0), .lit (.int .u8 0)], .agg [.lit (.int .u8 0), .lit (.int .u8 0)], .agg [.lit (.int .u8 0), .lit (.int .u8 0)]]
/-- One of Go's own tables, pinned by name: the form's constant. -/
def laid_unicode_utf8_first : DataW Unit := Go.Pinned.utf8First

/-- 'tramwaylaw20.CopiesPrints': WHATEVER THE INPUT: true; the input reads as it did. -/
def copiesPrintsSpec : ChangeSpec := { name := "copiesPrints", fn := fun _ => fun
  | [d1, d2] => { results := [.lit (.bool true)], args := [d1, d2] }
  | _ => none }
def copiesPrintsRow : OpenClaim := { program := "ytehbpibpbfomhaadoor", sum := "0e39b6cfbf2fa8c3c5e6b20182c019ef64797b553689dc929df4b10c1a4051ab", func := "tramway/tramwaylaw20.CopiesPrints", spec := "copiesPrints", inPlace := ["internal/bytealg.IndexByteString", "internal/bytealg.IndexString", "internal/bytealg.CountString", "internal/abi.NoEscape"], unfollowed := true, recurses := true, named := ["unicode/utf8.first", "unicode/utf8.acceptRanges", "internal/bytealg.MaxLen"], apart := false, laid := [("unicode/utf8.acceptRanges", laid_unicode_utf8_acceptRanges), ("unicode/utf8.first", laid_unicode_utf8_first)] }
def CopiesPrintsSaid : Prop := copiesPrintsRow.holds Tryd.pinned (OpenSpec.ofChange copiesPrintsSpec)

/-- ITS FALSE NEIGHBOUR: 'it returns false'. Refute it at one input. -/
def copiesPrintsWrong : ChangeSpec := { name := "copiesPrints", fn := fun _ => fun
  | [d1, d2] => { results := [.lit (.bool false)], args := [d1, d2] }
  | _ => none }
def CopiesPrintsWrongFalsely : Prop := copiesPrintsRow.holds Tryd.pinned (OpenSpec.ofChange copiesPrintsWrong)

/-- 'tramwaylaw20.CopiesParses': WHATEVER THE INPUT: true; the input reads as it did. -/
def copiesParsesSpec : ChangeSpec := { name := "copiesParses", fn := fun _ => fun
  | [d] => { results := [.lit (.bool true)], args := [d] }
  | _ => none }
def copiesParsesRow : OpenClaim := { program := "ytehbpibpbfomhaadoor", sum := "0e39b6cfbf2fa8c3c5e6b20182c019ef64797b553689dc929df4b10c1a4051ab", func := "tramway/tramwaylaw20.CopiesParses", spec := "copiesParses", inPlace := ["internal/bytealg.IndexByteString", "internal/bytealg.IndexString", "internal/bytealg.CountString", "internal/abi.NoEscape"], unfollowed := true, recurses := true, named := ["internal/bytealg.MaxLen", "unicode/utf8.first", "unicode/utf8.acceptRanges"], apart := false, laid := [("unicode/utf8.acceptRanges", laid_unicode_utf8_acceptRanges), ("unicode/utf8.first", laid_unicode_utf8_first)] }
def CopiesParsesSaid : Prop := copiesParsesRow.holds Tryd.pinned (OpenSpec.ofChange copiesParsesSpec)

/-- ITS FALSE NEIGHBOUR: 'it returns false'. Refute it at one input. -/
def copiesParsesWrong : ChangeSpec := { name := "copiesParses", fn := fun _ => fun
  | [d] => { results := [.lit (.bool false)], args := [d] }
  | _ => none }
def CopiesParsesWrongFalsely : Prop := copiesParsesRow.holds Tryd.pinned (OpenSpec.ofChange copiesParsesWrong)

/-- 'tramwaylaw20.CopiesBack': WHATEVER THE INPUT: true; the input reads as it did. -/
def copiesBackSpec : ChangeSpec := { name := "copiesBack", fn := fun _ => fun
  | [d1, d2, d3] => { results := [.lit (.bool true)], args := [d1, d2, d3] }
  | _ => none }
def copiesBackRow : OpenClaim := { program := "ytehbpibpbfomhaadoor", sum := "0e39b6cfbf2fa8c3c5e6b20182c019ef64797b553689dc929df4b10c1a4051ab", func := "tramway/tramwaylaw20.CopiesBack", spec := "copiesBack", inPlace := ["internal/bytealg.IndexByteString", "internal/bytealg.IndexString", "internal/bytealg.CountString", "internal/abi.NoEscape"], unfollowed := true, recurses := true, named := ["unicode/utf8.first", "unicode/utf8.acceptRanges", "internal/bytealg.MaxLen"], apart := false, laid := [("unicode/utf8.acceptRanges", laid_unicode_utf8_acceptRanges), ("unicode/utf8.first", laid_unicode_utf8_first)] }
def CopiesBackSaid : Prop := copiesBackRow.holds Tryd.pinned (OpenSpec.ofChange copiesBackSpec)

/-- ITS FALSE NEIGHBOUR: 'it returns false'. Refute it at one input. -/
def copiesBackWrong : ChangeSpec := { name := "copiesBack", fn := fun _ => fun
  | [d1, d2, d3] => { results := [.lit (.bool false)], args := [d1, d2, d3] }
  | _ => none }
def CopiesBackWrongFalsely : Prop := copiesBackRow.holds Tryd.pinned (OpenSpec.ofChange copiesBackWrong)

/-- 'tramwaylaw20.CopiesOwn': WHATEVER THE INPUT: true; the input reads as it did. -/
def copiesOwnSpec : ChangeSpec := { name := "copiesOwn", fn := fun _ => fun
  | [d] => { results := [.lit (.bool true)], args := [d] }
  | _ => none }
def copiesOwnRow : OpenClaim := { program := "ytehbpibpbfomhaadoor", sum := "0e39b6cfbf2fa8c3c5e6b20182c019ef64797b553689dc929df4b10c1a4051ab", func := "tramway/tramwaylaw20.CopiesOwn", spec := "copiesOwn", inPlace := ["internal/bytealg.IndexByteString", "internal/bytealg.IndexString", "internal/bytealg.CountString", "internal/abi.NoEscape"], unfollowed := true, recurses := true, named := ["unicode/utf8.first", "unicode/utf8.acceptRanges", "internal/bytealg.MaxLen"], apart := false, laid := [("unicode/utf8.acceptRanges", laid_unicode_utf8_acceptRanges), ("unicode/utf8.first", laid_unicode_utf8_first)] }
def CopiesOwnSaid : Prop := copiesOwnRow.holds Tryd.pinned (OpenSpec.ofChange copiesOwnSpec)

/-- ITS FALSE NEIGHBOUR: 'it returns false'. Refute it at one input. -/
def copiesOwnWrong : ChangeSpec := { name := "copiesOwn", fn := fun _ => fun
  | [d] => { results := [.lit (.bool false)], args := [d] }
  | _ => none }
def CopiesOwnWrongFalsely : Prop := copiesOwnRow.holds Tryd.pinned (OpenSpec.ofChange copiesOwnWrong)

/-- 'tramwaylaw20.CopiesPlain': WHATEVER THE INPUT: true; the input reads as it did. -/
def copiesPlainSpec : ChangeSpec := { name := "copiesPlain", fn := fun _ => fun
  | [d1, d2] => { results := [.lit (.bool true)], args := [d1, d2] }
  | _ => none }
def copiesPlainRow : OpenClaim := { program := "ytehbpibpbfomhaadoor", sum := "0e39b6cfbf2fa8c3c5e6b20182c019ef64797b553689dc929df4b10c1a4051ab", func := "tramway/tramwaylaw20.CopiesPlain", spec := "copiesPlain", inPlace := ["internal/bytealg.IndexByteString", "internal/bytealg.IndexString", "internal/bytealg.CountString", "internal/abi.NoEscape"], unfollowed := true, recurses := true, named := ["unicode/utf8.first", "unicode/utf8.acceptRanges", "internal/bytealg.MaxLen"], apart := false, laid := [("unicode/utf8.acceptRanges", laid_unicode_utf8_acceptRanges), ("unicode/utf8.first", laid_unicode_utf8_first)] }
def CopiesPlainSaid : Prop := copiesPlainRow.holds Tryd.pinned (OpenSpec.ofChange copiesPlainSpec)

/-- ITS FALSE NEIGHBOUR: 'it returns false'. Refute it at one input. -/
def copiesPlainWrong : ChangeSpec := { name := "copiesPlain", fn := fun _ => fun
  | [d1, d2] => { results := [.lit (.bool false)], args := [d1, d2] }
  | _ => none }
def CopiesPlainWrongFalsely : Prop := copiesPlainRow.holds Tryd.pinned (OpenSpec.ofChange copiesPlainWrong)

/- THE SECOND FORM. 'bulk': how many values and letters a reading holds, each counted each time it is reached (what is shared counts as often as it is met; a slice's spare places count too). A statement '..UptoSaid' is the law's where the arguments, and the package variables that the reading takes, are together of bulk at most 1048576: NARROWER than '..Said'. Prove '..Said' where nothing that the law and all that it calls make is longer than what came in: it says more and counts as full. Else prove '..UptoSaid'. A law counts once. -/
mutual
def uptoBulk {H : Type} : DataW H → Nat
  | .lit (.string bytes) => bytes.length + 1
  | .lit _ => 1
  | .nil => 1
  | .ptr d => uptoBulk d + 1
  | .slice elems spare => uptoBulkAll elems + uptoBulkAll spare + 1
  | .agg parts => uptoBulkAll parts + 1
  | .iface _ d => uptoBulk d + 1
  | .map entries => uptoBulkEntries entries + 1
  | .held _ => 1
def uptoBulkAll {H : Type} : List (DataW H) → Nat
  | [] => 0
  | d :: r => uptoBulk d + uptoBulkAll r
def uptoBulkEntries {H : Type} : List (Lit × DataW H) → Nat
  | [] => 0
  | x :: r => uptoBulkEntry x + uptoBulkEntries r
def uptoBulkEntry {H : Type} : Lit × DataW H → Nat
  | (.string bytes, d) => bytes.length + uptoBulk d + 1
  | (_, d) => uptoBulk d + 1
 end
def uptoSmall : (H : Type) → List (DataW H) → Bool := fun _ ds => decide (uptoBulkAll ds ≤ 1048576)
def OpenSpec.upto (s : _root_.Go.ChangeSpec) : _root_.Go.OpenSpec := { _root_.Go.OpenSpec.ofChange s with cond := some uptoSmall }

/-- 'tramwaylaw20.CopiesPrints', WHERE WHAT IT READS IS OF BULK AT MOST 1048576: true; the input reads as it did. -/
def copiesPrintsUptoRow : OpenClaim := { program := "ytehbpibpbfomhaadoor", sum := "0e39b6cfbf2fa8c3c5e6b20182c019ef64797b553689dc929df4b10c1a4051ab", func := "tramway/tramwaylaw20.CopiesPrints", spec := "copiesPrints", inPlace := ["internal/bytealg.IndexByteString", "internal/bytealg.IndexString", "internal/bytealg.CountString", "internal/abi.NoEscape"], unfollowed := true, recurses := true, named := ["unicode/utf8.first", "unicode/utf8.acceptRanges", "internal/bytealg.MaxLen"], apart := false, laid := [("unicode/utf8.acceptRanges", laid_unicode_utf8_acceptRanges), ("unicode/utf8.first", laid_unicode_utf8_first)], narrowed := true }
def CopiesPrintsUptoSaid : Prop := copiesPrintsUptoRow.holds Tryd.pinned (OpenSpec.upto copiesPrintsSpec)

/-- 'tramwaylaw20.CopiesParses', WHERE WHAT IT READS IS OF BULK AT MOST 1048576: true; the input reads as it did. -/
def copiesParsesUptoRow : OpenClaim := { program := "ytehbpibpbfomhaadoor", sum := "0e39b6cfbf2fa8c3c5e6b20182c019ef64797b553689dc929df4b10c1a4051ab", func := "tramway/tramwaylaw20.CopiesParses", spec := "copiesParses", inPlace := ["internal/bytealg.IndexByteString", "internal/bytealg.IndexString", "internal/bytealg.CountString", "internal/abi.NoEscape"], unfollowed := true, recurses := true, named := ["internal/bytealg.MaxLen", "unicode/utf8.first", "unicode/utf8.acceptRanges"], apart := false, laid := [("unicode/utf8.acceptRanges", laid_unicode_utf8_acceptRanges), ("unicode/utf8.first", laid_unicode_utf8_first)], narrowed := true }
def CopiesParsesUptoSaid : Prop := copiesParsesUptoRow.holds Tryd.pinned (OpenSpec.upto copiesParsesSpec)

/-- 'tramwaylaw20.CopiesBack', WHERE WHAT IT READS IS OF BULK AT MOST 1048576: true; the input reads as it did. -/
def copiesBackUptoRow : OpenClaim := { program := "ytehbpibpbfomhaadoor", sum := "0e39b6cfbf2fa8c3c5e6b20182c019ef64797b553689dc929df4b10c1a4051ab", func := "tramway/tramwaylaw20.CopiesBack", spec := "copiesBack", inPlace := ["internal/bytealg.IndexByteString", "internal/bytealg.IndexString", "internal/bytealg.CountString", "internal/abi.NoEscape"], unfollowed := true, recurses := true, named := ["unicode/utf8.first", "unicode/utf8.acceptRanges", "internal/bytealg.MaxLen"], apart := false, laid := [("unicode/utf8.acceptRanges", laid_unicode_utf8_acceptRanges), ("unicode/utf8.first", laid_unicode_utf8_first)], narrowed := true }
def CopiesBackUptoSaid : Prop := copiesBackUptoRow.holds Tryd.pinned (OpenSpec.upto copiesBackSpec)

/-- 'tramwaylaw20.CopiesOwn', WHERE WHAT IT READS IS OF BULK AT MOST 1048576: true; the input reads as it did. -/
def copiesOwnUptoRow : OpenClaim := { program := "ytehbpibpbfomhaadoor", sum := "0e39b6cfbf2fa8c3c5e6b20182c019ef64797b553689dc929df4b10c1a4051ab", func := "tramway/tramwaylaw20.CopiesOwn", spec := "copiesOwn", inPlace := ["internal/bytealg.IndexByteString", "internal/bytealg.IndexString", "internal/bytealg.CountString", "internal/abi.NoEscape"], unfollowed := true, recurses := true, named := ["unicode/utf8.first", "unicode/utf8.acceptRanges", "internal/bytealg.MaxLen"], apart := false, laid := [("unicode/utf8.acceptRanges", laid_unicode_utf8_acceptRanges), ("unicode/utf8.first", laid_unicode_utf8_first)], narrowed := true }
def CopiesOwnUptoSaid : Prop := copiesOwnUptoRow.holds Tryd.pinned (OpenSpec.upto copiesOwnSpec)

/-- 'tramwaylaw20.CopiesPlain', WHERE WHAT IT READS IS OF BULK AT MOST 1048576: true; the input reads as it did. -/
def copiesPlainUptoRow : OpenClaim := { program := "ytehbpibpbfomhaadoor", sum := "0e39b6cfbf2fa8c3c5e6b20182c019ef64797b553689dc929df4b10c1a4051ab", func := "tramway/tramwaylaw20.CopiesPlain", spec := "copiesPlain", inPlace := ["internal/bytealg.IndexByteString", "internal/bytealg.IndexString", "internal/bytealg.CountString", "internal/abi.NoEscape"], unfollowed := true, recurses := true, named := ["unicode/utf8.first", "unicode/utf8.acceptRanges", "internal/bytealg.MaxLen"], apart := false, laid := [("unicode/utf8.acceptRanges", laid_unicode_utf8_acceptRanges), ("unicode/utf8.first", laid_unicode_utf8_first)], narrowed := true }
def CopiesPlainUptoSaid : Prop := copiesPlainUptoRow.holds Tryd.pinned (OpenSpec.upto copiesPlainSpec)

end Rows
end Go.Proofs.YtehbpibpbfomhaaDoor
