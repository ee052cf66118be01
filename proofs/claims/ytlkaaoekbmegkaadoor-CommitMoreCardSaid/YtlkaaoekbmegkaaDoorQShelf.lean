import Derived.Shelf.Strings.Builder1
import Derived.Shelf.Small.Utf8
import Derived.Shelf.Small.Strs
import Derived.Shelf.Strconv.Itoa0
import Derived.Shelf.LaysM
import Derived.Shelf.Strconv.Itoa3
import Derived.Shelf.LaysC
import Derived.Shelf.Strconv.AtoiAll
import Derived.Shelf.Strings.Search1
import Derived.Shelf.Strings.Cut
import Derived.Shelf.GgClosure.StringsRunes
import Derived.Shelf.Strings.Prefix
import Derived.Shelf.Strings.Replace
import Derived.Shelf.Strings.Runes
import Derived.Shelf.Strings.IndexAny
import Derived.Shelf.Strings.IndexAnyAll
import Derived.Test.YtlkaaoekbmegkaaDoorProg
import Derived.Test.YtlkaaoekbmegkaaDoorQAMS
import Derived.Test.YtlkaaoekbmegkaaDoorQMem
import Derived.Laws.RangeAny
import Derived.Laws.Runes
import Derived.Deep.LoopGhost
import Derived.Deep.QuietTactic
import Derived.WalkMore
namespace Go.Proofs.YtlkaaoekbmegkaaDoor
set_option linter.all false
open Go.Shelf
def Tryd.lays169_ren : Go.Shelf.Ren := ⟨fun | 169 => 20 | n => n, fun | 70 => 59 | 9 => 9 | 0 => 0 | 72 => 61 | 37 => 29 | 127 => 91 | 3 => 3 | 5 => 5 | n => n, fun | n => n⟩
theorem Tryd.lays169 : Go.Proofs.Lays.n169 Tryd.prog Tryd.lays169_ren := {
  mixed := by kernel_rfl
  f169 := Tryd.func20.trans (congrArg some (by kernel_rfl))
  t0 := Tryd.underlying0
  a0 := Tryd.isAgg0
  z0 := Tryd.sizeOf0
  v0 := Tryd.zeroValue0
  t3 := Tryd.underlying3
  a3 := Tryd.isAgg3
  z3 := Tryd.sizeOf3
  v3 := Tryd.zeroValue3
  t9 := Tryd.underlying9
  a9 := Tryd.isAgg9
  z9 := Tryd.sizeOf9
  v9 := Tryd.zeroValue9
  t37 := Tryd.underlying29
  a37 := Tryd.isAgg29
  z37 := Tryd.sizeOf29
  v37 := Tryd.zeroValue29
  t70 := Tryd.underlying59
  a70 := Tryd.isAgg59
  z70 := Tryd.sizeOf59
  v70 := Tryd.zeroValue59
  t72 := Tryd.underlying61
  a72 := Tryd.isAgg61
  z72 := Tryd.sizeOf61
  v72 := Tryd.zeroValue61
  t127 := Tryd.underlying91
  a127 := Tryd.isAgg91
  z127 := Tryd.sizeOf91
  v127 := Tryd.zeroValue91 }
theorem Tryd.Builder_Extra_169 : Builder.Extra Tryd.prog Tryd.lays169_ren := {
  sizeBuilder := by kernel_rfl
  liesBuilder := by kernel_rfl
  t5 := Tryd.underlying5
  a5 := Tryd.isAgg5
  z5 := Tryd.sizeOf5
  v5 := Tryd.zeroValue5
  infoByte := by kernel_rfl
  cellsByte := by kernel_rfl
  sizeByte := by kernel_rfl
  neB5 := by decide }
open Go.RowKit in
theorem Tryd.Builder_String_any (B b : Nat) (l : List UInt8) (w : World) (h : Lib.IsBuilder 61 5 B b (Lib.byteCells l) w) (hBw : B ≤ w.heap.size) :
    Calls Tryd.prog 20 #[.pointer (some ⟨b, 0, none⟩)] w fun e w' => e = .returned (.string ⟨l.toArray⟩) ∧ Below B w w' := Any.Builder_String_any Tryd.lays169 Tryd.Builder_Extra_169 B b l w h hBw
def Tryd.lays119_ren : Go.Shelf.Ren := ⟨fun | 119 => 73 | n => n, fun | 21 => 21 | 4 => 4 | n => n, fun | n => n⟩
theorem Tryd.lays119 : Go.Proofs.Lays.n119 Tryd.prog Tryd.lays119_ren := {
  mixed := by kernel_rfl
  f119 := Tryd.func73.trans (congrArg some (by kernel_rfl))
  t4 := Tryd.underlying4
  a4 := Tryd.isAgg4
  z4 := Tryd.sizeOf4
  v4 := Tryd.zeroValue4
  t21 := Tryd.underlying21
  a21 := Tryd.isAgg21
  z21 := Tryd.sizeOf21
  v21 := Tryd.zeroValue21 }
theorem Tryd.utf8_ValidRune (r : Int) (w : World) :
    Calls Tryd.prog 73 #[.int .i32 r] w fun e w' => e = .returned (.bool (Lib.validRune r)) ∧ w' = w := Any.utf8_ValidRune Tryd.lays119 r w
def Tryd.lays137_ren : Go.Shelf.Ren := ⟨fun | 137 => 52 | 217 => 68 | 266 => 78 | n => n, fun | 9 => 9 | 5 => 5 | 3 => 3 | n => n, fun | n => n⟩
theorem Tryd.lays137 : Go.Proofs.Lays.n137 Tryd.prog Tryd.lays137_ren := {
  mixed := by kernel_rfl
  f137 := Tryd.func52.trans (congrArg some (by kernel_rfl))
  f217 := Tryd.func68.trans (congrArg some (by kernel_rfl))
  f266 := Tryd.func78.trans (congrArg some (by kernel_rfl))
  t3 := Tryd.underlying3
  a3 := Tryd.isAgg3
  z3 := Tryd.sizeOf3
  v3 := Tryd.zeroValue3
  t5 := Tryd.underlying5
  a5 := Tryd.isAgg5
  z5 := Tryd.sizeOf5
  v5 := Tryd.zeroValue5
  t9 := Tryd.underlying9
  a9 := Tryd.isAgg9
  z9 := Tryd.sizeOf9
  v9 := Tryd.zeroValue9 }
open Go.RowKit in
theorem Tryd.strings_IndexByte (s : ByteArray) (c : Int) (w : World) :
    Calls Tryd.prog 52 #[.string s, .int .u8 c] w fun e w' => e = .returned (.int .i64 (Lib.indexByte s.data.toList c.toNat.toUInt8)) ∧ w' = w := Any.strings_IndexByte Tryd.lays137 s c w
def Tryd.lays145_ren : Go.Shelf.Ren := ⟨fun | 145 => 39 | 220 => 53 | 219 => 66 | 217 => 68 | 225 => 75 | 224 => 74 | 267 => 77 | 266 => 78 | 314 => 89 | n => n, fun | 9 => 9 | 4 => 4 | 59 => 94 | 3 => 3 | 5 => 5 | 46 => 89 | 146 => 144 | 51 => 143 | n => n, fun | 1 => 0 | n => n⟩
theorem Tryd.lays145 : Go.Proofs.Lays.n145 Tryd.prog Tryd.lays145_ren := {
  mixed := by kernel_rfl
  f145 := Tryd.func39.trans (congrArg some (by kernel_rfl))
  f217 := Tryd.func68.trans (congrArg some (by kernel_rfl))
  f219 := Tryd.func66.trans (congrArg some (by kernel_rfl))
  f220 := Tryd.func53.trans (congrArg some (by kernel_rfl))
  f224 := Tryd.func74.trans (congrArg some (by kernel_rfl))
  f225 := Tryd.func75.trans (congrArg some (by kernel_rfl))
  f266 := Tryd.func78.trans (congrArg some (by kernel_rfl))
  f267 := Tryd.func77.trans (congrArg some (by kernel_rfl))
  f314 := Tryd.func89.trans (congrArg some (by kernel_rfl))
  t3 := Tryd.underlying3
  a3 := Tryd.isAgg3
  z3 := Tryd.sizeOf3
  v3 := Tryd.zeroValue3
  t4 := Tryd.underlying4
  a4 := Tryd.isAgg4
  z4 := Tryd.sizeOf4
  v4 := Tryd.zeroValue4
  t5 := Tryd.underlying5
  a5 := Tryd.isAgg5
  z5 := Tryd.sizeOf5
  v5 := Tryd.zeroValue5
  t9 := Tryd.underlying9
  a9 := Tryd.isAgg9
  z9 := Tryd.sizeOf9
  v9 := Tryd.zeroValue9
  t46 := Tryd.underlying89
  a46 := Tryd.isAgg89
  z46 := Tryd.sizeOf89
  v46 := Tryd.zeroValue89
  t51 := Tryd.underlying143
  a51 := Tryd.isAgg143
  z51 := Tryd.sizeOf143
  v51 := Tryd.zeroValue143
  t59 := Tryd.underlying94
  a59 := Tryd.isAgg94
  z59 := Tryd.sizeOf94
  v59 := Tryd.zeroValue94
  t146 := Tryd.underlying144
  a146 := Tryd.isAgg144
  z146 := Tryd.sizeOf144
  v146 := Tryd.zeroValue144
  g1 := by kernel_rfl }
open Go.RowKit Go.Lib in
theorem Tryd.strings_Cut (s sep : ByteArray) (m : Int) (w : World) (hs : s.size < 4294967281) (hm : w.cell? ⟨0, 0, none⟩ = some (.int .i64 m)) :
    Calls Tryd.prog 39 #[.string s, .string sep] w fun e w' => e = .returned (.tuple #[.string ⟨(Lib.cut s.data.toList sep.data.toList).1.toArray⟩, .string ⟨(Lib.cut s.data.toList sep.data.toList).2.1.toArray⟩, .bool (Lib.cut s.data.toList sep.data.toList).2.2]) ∧ ∃ n, w' = w.drewN n := Any.strings_Cut Tryd.lays145 s sep m w hs hm
def Tryd.lays99_ren : Go.Shelf.Ren := ⟨fun | 99 => 22 | 206 => 38 | n => n, fun | 9 => 9 | 4 => 4 | 3 => 3 | n => n, fun | n => n⟩
theorem Tryd.lays99 : Go.Proofs.Lays.n99 Tryd.prog Tryd.lays99_ren := {
  mixed := by kernel_rfl
  f99 := Tryd.func22.trans (congrArg some (by kernel_rfl))
  f206 := Tryd.func38.trans (congrArg some (by kernel_rfl))
  t3 := Tryd.underlying3
  a3 := Tryd.isAgg3
  z3 := Tryd.sizeOf3
  v3 := Tryd.zeroValue3
  t4 := Tryd.underlying4
  a4 := Tryd.isAgg4
  z4 := Tryd.sizeOf4
  v4 := Tryd.zeroValue4
  t9 := Tryd.underlying9
  a9 := Tryd.isAgg9
  z9 := Tryd.sizeOf9
  v9 := Tryd.zeroValue9 }
open Go.RowKit Go.Lib in
theorem Tryd.strings_HasPrefix (s p : ByteArray) (w : World) :
    Calls Tryd.prog 22 #[.string s, .string p] w fun e w' => e = .returned (.bool (Lib.hasPrefix s.data.toList p.data.toList)) ∧ w' = w := Any.strings_HasPrefix Tryd.lays99 s p w
def Tryd.laysGw17_ren : Go.Shelf.Ren := ⟨fun | 17 => 56 | 15 => 71 | 20 => 84 | n => n, fun | 9 => 9 | 23 => 113 | 4 => 4 | 3 => 3 | 0 => 0 | 21 => 21 | n => n, fun | n => n⟩
theorem Tryd.laysGw17 : Go.Proofs.LaysGw.n17 Tryd.prog Tryd.laysGw17_ren := {
  mixed := by kernel_rfl
  f15 := Tryd.func71.trans (congrArg some (by kernel_rfl))
  f17 := Tryd.func56.trans (congrArg some (by kernel_rfl))
  f20 := Tryd.func84.trans (congrArg some (by kernel_rfl))
  t0 := Tryd.underlying0
  a0 := Tryd.isAgg0
  z0 := Tryd.sizeOf0
  v0 := Tryd.zeroValue0
  i0 := by kernel_rfl
  t3 := Tryd.underlying3
  a3 := Tryd.isAgg3
  z3 := Tryd.sizeOf3
  v3 := Tryd.zeroValue3
  i3 := by kernel_rfl
  t4 := Tryd.underlying4
  a4 := Tryd.isAgg4
  z4 := Tryd.sizeOf4
  v4 := Tryd.zeroValue4
  i4 := by kernel_rfl
  t9 := Tryd.underlying9
  a9 := Tryd.isAgg9
  z9 := Tryd.sizeOf9
  v9 := Tryd.zeroValue9
  i9 := by kernel_rfl
  t21 := Tryd.underlying21
  a21 := Tryd.isAgg21
  z21 := Tryd.sizeOf21
  v21 := Tryd.zeroValue21
  i21 := by kernel_rfl
  t23 := Tryd.underlying113
  a23 := Tryd.isAgg113
  z23 := Tryd.sizeOf113
  v23 := Tryd.zeroValue113
  i23 := by kernel_rfl }
open Go.RowKit Go.Lib in
theorem Tryd.strings_ContainsFunc_runes (g : Nat) (lb : Array Value) (eg : ∀ args w, (callFunc g args).run Tryd.prog w = .ok (.enter g args) w) (p : Nat → Bool) (s : ByteArray) (w : World) (hp : PredAtRunes Tryd.prog g lb p w) :
    Calls Tryd.prog 56 #[.string s, .func (.func g) #[] lb] w fun e w' => e = .returned (.bool (decide (0 ≤ Lib.idxFunc p true s))) ∧ Below w.heap.size w w' := Any.strings_ContainsFunc_runes Tryd.laysGw17 g lb eg p s w hp
def Tryd.lays155_ren : Go.Shelf.Ren := ⟨fun | 155 => 19 | 154 => 36 | 138 => 48 | 165 => 49 | 143 => 50 | 166 => 17 | 197 => 51 | 169 => 20 | 195 => 63 | 218 => 64 | 240 => 34 | 241 => 65 | 219 => 66 | 260 => 67 | 276 => 47 | 277 => 76 | 217 => 68 | 225 => 75 | 224 => 74 | 267 => 77 | 266 => 78 | 314 => 89 | n => n, fun | 9 => 9 | 3 => 3 | 4 => 4 | 72 => 61 | 0 => 0 | 76 => 64 | 105 => 107 | 21 => 21 | 5 => 5 | 70 => 59 | 20 => 20 | 37 => 29 | 75 => 63 | 127 => 91 | 164 => 104 | 46 => 89 | 119 => 126 | 139 => 129 | 138 => 128 | 146 => 144 | 51 => 143 | 80 => 68 | n => n, fun | 1 => 0 | 3 => 1 | 4 => 2 | n => n⟩
theorem Tryd.lays155 : Go.Proofs.Lays.n155 Tryd.prog Tryd.lays155_ren := {
  mixed := by kernel_rfl
  f138 := Tryd.func48.trans (congrArg some (by kernel_rfl))
  f143 := Tryd.func50.trans (congrArg some (by kernel_rfl))
  f154 := Tryd.func36.trans (congrArg some (by kernel_rfl))
  f155 := Tryd.func19.trans (congrArg some (by kernel_rfl))
  f165 := Tryd.func49.trans (congrArg some (by kernel_rfl))
  f166 := Tryd.func17.trans (congrArg some (by kernel_rfl))
  f169 := Tryd.func20.trans (congrArg some (by kernel_rfl))
  f195 := Tryd.func63.trans (congrArg some (by kernel_rfl))
  f197 := Tryd.func51.trans (congrArg some (by kernel_rfl))
  f217 := Tryd.func68.trans (congrArg some (by kernel_rfl))
  f218 := Tryd.func64.trans (congrArg some (by kernel_rfl))
  f219 := Tryd.func66.trans (congrArg some (by kernel_rfl))
  f224 := Tryd.func74.trans (congrArg some (by kernel_rfl))
  f225 := Tryd.func75.trans (congrArg some (by kernel_rfl))
  f240 := Tryd.func34.trans (congrArg some (by kernel_rfl))
  f241 := Tryd.func65.trans (congrArg some (by kernel_rfl))
  f260 := Tryd.func67.trans (congrArg some (by kernel_rfl))
  f266 := Tryd.func78.trans (congrArg some (by kernel_rfl))
  f267 := Tryd.func77.trans (congrArg some (by kernel_rfl))
  f276 := Tryd.func47.trans (congrArg some (by kernel_rfl))
  f277 := Tryd.func76.trans (congrArg some (by kernel_rfl))
  f314 := Tryd.func89.trans (congrArg some (by kernel_rfl))
  t0 := Tryd.underlying0
  a0 := Tryd.isAgg0
  z0 := Tryd.sizeOf0
  v0 := Tryd.zeroValue0
  t3 := Tryd.underlying3
  a3 := Tryd.isAgg3
  z3 := Tryd.sizeOf3
  v3 := Tryd.zeroValue3
  t4 := Tryd.underlying4
  a4 := Tryd.isAgg4
  z4 := Tryd.sizeOf4
  v4 := Tryd.zeroValue4
  t5 := Tryd.underlying5
  a5 := Tryd.isAgg5
  z5 := Tryd.sizeOf5
  v5 := Tryd.zeroValue5
  t9 := Tryd.underlying9
  a9 := Tryd.isAgg9
  z9 := Tryd.sizeOf9
  v9 := Tryd.zeroValue9
  t20 := Tryd.underlying20
  a20 := Tryd.isAgg20
  z20 := Tryd.sizeOf20
  v20 := Tryd.zeroValue20
  t21 := Tryd.underlying21
  a21 := Tryd.isAgg21
  z21 := Tryd.sizeOf21
  v21 := Tryd.zeroValue21
  t37 := Tryd.underlying29
  a37 := Tryd.isAgg29
  z37 := Tryd.sizeOf29
  v37 := Tryd.zeroValue29
  t46 := Tryd.underlying89
  a46 := Tryd.isAgg89
  z46 := Tryd.sizeOf89
  v46 := Tryd.zeroValue89
  t51 := Tryd.underlying143
  a51 := Tryd.isAgg143
  z51 := Tryd.sizeOf143
  v51 := Tryd.zeroValue143
  t70 := Tryd.underlying59
  a70 := Tryd.isAgg59
  z70 := Tryd.sizeOf59
  v70 := Tryd.zeroValue59
  t72 := Tryd.underlying61
  a72 := Tryd.isAgg61
  z72 := Tryd.sizeOf61
  v72 := Tryd.zeroValue61
  t75 := Tryd.underlying63
  a75 := Tryd.isAgg63
  z75 := Tryd.sizeOf63
  v75 := Tryd.zeroValue63
  t76 := Tryd.underlying64
  a76 := Tryd.isAgg64
  z76 := Tryd.sizeOf64
  v76 := Tryd.zeroValue64
  t105 := Tryd.underlying107
  a105 := Tryd.isAgg107
  z105 := Tryd.sizeOf107
  v105 := Tryd.zeroValue107
  t119 := Tryd.underlying126
  a119 := Tryd.isAgg126
  z119 := Tryd.sizeOf126
  t127 := Tryd.underlying91
  a127 := Tryd.isAgg91
  z127 := Tryd.sizeOf91
  v127 := Tryd.zeroValue91
  t138 := Tryd.underlying128
  a138 := Tryd.isAgg128
  z138 := Tryd.sizeOf128
  v138 := Tryd.zeroValue128
  t139 := Tryd.underlying129
  a139 := Tryd.isAgg129
  z139 := Tryd.sizeOf129
  v139 := Tryd.zeroValue129
  t146 := Tryd.underlying144
  a146 := Tryd.isAgg144
  z146 := Tryd.sizeOf144
  v146 := Tryd.zeroValue144
  t164 := Tryd.underlying104
  a164 := Tryd.isAgg104
  z164 := Tryd.sizeOf104
  v164 := Tryd.zeroValue104
  g1 := by kernel_rfl
  g3 := by kernel_rfl
  g4 := by kernel_rfl }
theorem Tryd.Builder_Extra_155 : Builder.Extra Tryd.prog Tryd.lays155_ren := {
  sizeBuilder := by kernel_rfl
  liesBuilder := by kernel_rfl
  t5 := Tryd.underlying5
  a5 := Tryd.isAgg5
  z5 := Tryd.sizeOf5
  v5 := Tryd.zeroValue5
  infoByte := by kernel_rfl
  cellsByte := by kernel_rfl
  sizeByte := by kernel_rfl
  neB5 := by decide }
open Go.RowKit Go.Lib in
theorem Tryd.strings_ReplaceAll (s old new : ByteArray) (m : Int) (w : World) (hs : s.size < 4294967281) (hm : w.cell? ⟨0, 0, none⟩ = some (.int .i64 m)) (h1 : 1 ≤ old.size) (hlen : s.size + Lib.countB s old * new.size ≤ 140737488355328) :
    Calls Tryd.prog 19 #[.string s, .string old, .string new] w fun e w' =>
      e = .returned (.string ⟨(Lib.replaceAll s.data.toList old.data.toList new.data.toList).toArray⟩) ∧ Below w.heap.size w w' := Any.strings_ReplaceAll Tryd.lays155 Tryd.Builder_Extra_155 s old new m w hs hm h1 hlen
def Tryd.lays152_ren : Go.Shelf.Ren := ⟨fun | 152 => 59 | 137 => 52 | 119 => 73 | 224 => 74 | 225 => 75 | 217 => 68 | 266 => 78 | n => n, fun | 9 => 9 | 21 => 21 | 3 => 3 | 4 => 4 | 5 => 5 | 0 => 0 | 46 => 89 | n => n, fun | n => n⟩
theorem Tryd.lays152 : Go.Proofs.Lays.n152 Tryd.prog Tryd.lays152_ren := {
  mixed := by kernel_rfl
  f119 := Tryd.func73.trans (congrArg some (by kernel_rfl))
  f137 := Tryd.func52.trans (congrArg some (by kernel_rfl))
  f152 := Tryd.func59.trans (congrArg some (by kernel_rfl))
  f217 := Tryd.func68.trans (congrArg some (by kernel_rfl))
  f224 := Tryd.func74.trans (congrArg some (by kernel_rfl))
  f225 := Tryd.func75.trans (congrArg some (by kernel_rfl))
  f266 := Tryd.func78.trans (congrArg some (by kernel_rfl))
  t0 := Tryd.underlying0
  a0 := Tryd.isAgg0
  z0 := Tryd.sizeOf0
  v0 := Tryd.zeroValue0
  t3 := Tryd.underlying3
  a3 := Tryd.isAgg3
  z3 := Tryd.sizeOf3
  v3 := Tryd.zeroValue3
  t4 := Tryd.underlying4
  a4 := Tryd.isAgg4
  z4 := Tryd.sizeOf4
  v4 := Tryd.zeroValue4
  t5 := Tryd.underlying5
  a5 := Tryd.isAgg5
  z5 := Tryd.sizeOf5
  v5 := Tryd.zeroValue5
  t9 := Tryd.underlying9
  a9 := Tryd.isAgg9
  z9 := Tryd.sizeOf9
  v9 := Tryd.zeroValue9
  t21 := Tryd.underlying21
  a21 := Tryd.isAgg21
  z21 := Tryd.sizeOf21
  v21 := Tryd.zeroValue21
  t46 := Tryd.underlying89
  a46 := Tryd.isAgg89
  z46 := Tryd.sizeOf89
  v46 := Tryd.zeroValue89 }
open Go.RowKit Go.Lib in
theorem Tryd.strings_IndexRune_ascii (s : ByteArray) (r : Int) (w : World) (h0 : 0 ≤ r) (h1 : r < 128) :
    Calls Tryd.prog 59 #[.string s, .int .i32 r] w fun e w' => e = .returned (.int .i64 (Lib.indexByte s.data.toList r.toNat.toUInt8)) ∧ w' = w := Any.strings_IndexRune_ascii Tryd.lays152 s r w h0 h1
def Tryd.lays226_ren : Go.Shelf.Ren := ⟨fun | 226 => 60 | n => n, fun | 3 => 3 | 4 => 4 | n => n, fun | n => n⟩
theorem Tryd.lays226 : Go.Proofs.Lays.n226 Tryd.prog Tryd.lays226_ren := {
  mixed := by kernel_rfl
  f226 := Tryd.func60.trans (congrArg some (by kernel_rfl))
  t3 := Tryd.underlying3
  a3 := Tryd.isAgg3
  z3 := Tryd.sizeOf3
  v3 := Tryd.zeroValue3
  t4 := Tryd.underlying4
  a4 := Tryd.isAgg4
  z4 := Tryd.sizeOf4
  v4 := Tryd.zeroValue4 }
open Go.RowKit Go.Lib in
theorem Tryd.strings_shouldUseASCIISet (n : Int) (w : World) :
    Calls Tryd.prog 60 #[.int .i64 n] w fun e w' => e = .returned (.bool (decide (8 < n))) ∧ w' = w := Any.strings_shouldUseASCIISet Tryd.lays226 n w
def Tryd.lays153_ren : Go.Shelf.Ren := ⟨fun | 153 => 45 | 152 => 59 | 226 => 60 | 227 => 61 | 228 => 62 | 137 => 52 | 119 => 73 | 224 => 74 | 225 => 75 | 217 => 68 | 266 => 78 | n => n, fun | 9 => 9 | 3 => 3 | 4 => 4 | 5 => 5 | 21 => 21 | 117 => 117 | 116 => 116 | 0 => 0 | 46 => 89 | 124 => 124 | n => n, fun | n => n⟩
theorem Tryd.lays153 : Go.Proofs.Lays.n153 Tryd.prog Tryd.lays153_ren := {
  mixed := by kernel_rfl
  f119 := Tryd.func73.trans (congrArg some (by kernel_rfl))
  f137 := Tryd.func52.trans (congrArg some (by kernel_rfl))
  f152 := Tryd.func59.trans (congrArg some (by kernel_rfl))
  f153 := Tryd.func45.trans (congrArg some (by kernel_rfl))
  f217 := Tryd.func68.trans (congrArg some (by kernel_rfl))
  f224 := Tryd.func74.trans (congrArg some (by kernel_rfl))
  f225 := Tryd.func75.trans (congrArg some (by kernel_rfl))
  f226 := Tryd.func60.trans (congrArg some (by kernel_rfl))
  f227 := Tryd.func61.trans (congrArg some (by kernel_rfl))
  f228 := Tryd.func62.trans (congrArg some (by kernel_rfl))
  f266 := Tryd.func78.trans (congrArg some (by kernel_rfl))
  t0 := Tryd.underlying0
  a0 := Tryd.isAgg0
  z0 := Tryd.sizeOf0
  v0 := Tryd.zeroValue0
  t3 := Tryd.underlying3
  a3 := Tryd.isAgg3
  z3 := Tryd.sizeOf3
  v3 := Tryd.zeroValue3
  t4 := Tryd.underlying4
  a4 := Tryd.isAgg4
  z4 := Tryd.sizeOf4
  v4 := Tryd.zeroValue4
  t5 := Tryd.underlying5
  a5 := Tryd.isAgg5
  z5 := Tryd.sizeOf5
  v5 := Tryd.zeroValue5
  t9 := Tryd.underlying9
  a9 := Tryd.isAgg9
  z9 := Tryd.sizeOf9
  v9 := Tryd.zeroValue9
  t21 := Tryd.underlying21
  a21 := Tryd.isAgg21
  z21 := Tryd.sizeOf21
  v21 := Tryd.zeroValue21
  t46 := Tryd.underlying89
  a46 := Tryd.isAgg89
  z46 := Tryd.sizeOf89
  v46 := Tryd.zeroValue89
  t116 := Tryd.underlying116
  a116 := Tryd.isAgg116
  z116 := Tryd.sizeOf116
  t117 := Tryd.underlying117
  a117 := Tryd.isAgg117
  z117 := Tryd.sizeOf117
  v117 := Tryd.zeroValue117
  t124 := Tryd.underlying124
  a124 := Tryd.isAgg124
  z124 := Tryd.sizeOf124
  v124 := Tryd.zeroValue124 }
open Go.RowKit Go.Lib in
theorem Tryd.strings_IndexAny_long (hv116 : ∀ w, (zeroValue 116).run Tryd.prog w = .ok (.agg (Array.replicate 256 (.bool false))) w) (s chars : ByteArray) (w : World) (h2 : 2 ≤ chars.size) (h8 : 8 < s.size) (hs : s.size < 4294967281) (hcs : chars.size < 4294967281) (hascii : ∀ (j : Nat) b, chars.data.toList[j]? = some b → b.toNat < 128) :
    Calls Tryd.prog 45 #[.string s, .string chars] w fun e w' => e = .returned (.int .i64 (Lib.indexAny s.data.toList chars.data.toList)) ∧ w' = ((w.alloc (.cells (Lib.setCells chars.data.toList) 116)).alloc (.cells (Lib.setCells chars.data.toList) 116)) := Any.strings_IndexAny_long Tryd.lays153 hv116 (by kernel_rfl) s chars w h2 h8 hs hcs hascii
def Tryd.laysM171_ren : Go.Shelf.Ren := ⟨fun | 171 => 44 | 243 => 58 | 246 => 72 | 283 => 85 | 284 => 86 | 285 => 87 | 286 => 88 | 129 => 94 | 317 => 93 | 318 => 95 | 319 => 96 | 320 => 97 | 337 => 100 | 338 => 101 | n => n, fun | 3 => 3 | 9 => 9 | 2 => 2 | 4 => 4 | 171 => 137 | 0 => 0 | 53 => 138 | 37 => 29 | 5 => 5 | 173 => 141 | 212 => 152 | 51 => 143 | 20 => 20 | 213 => 153 | 46 => 89 | 232 => 160 | 233 => 161 | n => n, fun | 17 => 5 | 18 => 6 | 19 => 7 | n => n⟩
theorem Tryd.laysM171 : Go.Proofs.LaysM.n171 Tryd.prog Tryd.laysM171_ren := {
  mixed := by kernel_rfl
  f129 := Tryd.func94.trans (congrArg some (by kernel_rfl))
  f171 := Tryd.func44.trans (congrArg some (by kernel_rfl))
  f243 := Tryd.func58.trans (congrArg some (by kernel_rfl))
  f246 := Tryd.func72.trans (congrArg some (by kernel_rfl))
  f283 := Tryd.func85.trans (congrArg some (by kernel_rfl))
  f284 := Tryd.func86.trans (congrArg some (by kernel_rfl))
  f285 := Tryd.func87.trans (congrArg some (by kernel_rfl))
  f286 := Tryd.func88.trans (congrArg some (by kernel_rfl))
  f317 := Tryd.func93.trans (congrArg some (by kernel_rfl))
  f318 := Tryd.func95.trans (congrArg some (by kernel_rfl))
  f319 := Tryd.func96.trans (congrArg some (by kernel_rfl))
  f320 := Tryd.func97.trans (congrArg some (by kernel_rfl))
  f337 := Tryd.func100.trans (congrArg some (by kernel_rfl))
  f338 := Tryd.func101.trans (congrArg some (by kernel_rfl))
  t0 := Tryd.underlying0
  a0 := Tryd.isAgg0
  z0 := Tryd.sizeOf0
  v0 := Tryd.zeroValue0
  t2 := Tryd.underlying2
  a2 := Tryd.isAgg2
  z2 := Tryd.sizeOf2
  v2 := Tryd.zeroValue2
  t3 := Tryd.underlying3
  a3 := Tryd.isAgg3
  z3 := Tryd.sizeOf3
  v3 := Tryd.zeroValue3
  t4 := Tryd.underlying4
  a4 := Tryd.isAgg4
  z4 := Tryd.sizeOf4
  v4 := Tryd.zeroValue4
  t5 := Tryd.underlying5
  a5 := Tryd.isAgg5
  z5 := Tryd.sizeOf5
  v5 := Tryd.zeroValue5
  t9 := Tryd.underlying9
  a9 := Tryd.isAgg9
  z9 := Tryd.sizeOf9
  v9 := Tryd.zeroValue9
  t20 := Tryd.underlying20
  a20 := Tryd.isAgg20
  z20 := Tryd.sizeOf20
  v20 := Tryd.zeroValue20
  t37 := Tryd.underlying29
  a37 := Tryd.isAgg29
  z37 := Tryd.sizeOf29
  v37 := Tryd.zeroValue29
  t46 := Tryd.underlying89
  a46 := Tryd.isAgg89
  z46 := Tryd.sizeOf89
  v46 := Tryd.zeroValue89
  t51 := Tryd.underlying143
  a51 := Tryd.isAgg143
  z51 := Tryd.sizeOf143
  v51 := Tryd.zeroValue143
  t53 := Tryd.underlying138
  a53 := Tryd.isAgg138
  z53 := Tryd.sizeOf138
  v53 := Tryd.zeroValue138
  t171 := Tryd.underlying137
  a171 := Tryd.isAgg137
  z171 := Tryd.sizeOf137
  v171 := Tryd.zeroValue137
  t173 := Tryd.underlying141
  a173 := Tryd.isAgg141
  z173 := Tryd.sizeOf141
  v173 := Tryd.zeroValue141
  t212 := Tryd.underlying152
  a212 := Tryd.isAgg152
  z212 := Tryd.sizeOf152
  v212 := Tryd.zeroValue152
  t213 := Tryd.underlying153
  a213 := Tryd.isAgg153
  z213 := Tryd.sizeOf153
  t232 := Tryd.underlying160
  a232 := Tryd.isAgg160
  z232 := Tryd.sizeOf160
  v232 := Tryd.zeroValue160
  t233 := Tryd.underlying161
  a233 := Tryd.isAgg161
  z233 := Tryd.sizeOf161
  v233 := Tryd.zeroValue161
  g17 := by kernel_rfl
  g18 := by kernel_rfl
  g19 := by kernel_rfl
  i0 := by kernel_rfl
  i2 := by kernel_rfl
  i3 := by kernel_rfl
  i4 := by kernel_rfl
  i5 := by kernel_rfl
  i9 := by kernel_rfl
  i20 := by kernel_rfl
  i37 := by kernel_rfl
  i46 := by kernel_rfl
  i51 := by kernel_rfl
  i53 := by kernel_rfl
  i171 := by kernel_rfl
  i173 := by kernel_rfl
  i212 := by kernel_rfl
  i232 := by kernel_rfl
  i233 := by kernel_rfl
  m17 := by kernel_rfl
  m18 := by kernel_rfl
  m19 := by kernel_rfl }
open Go.RowKit Go.Sort Go.Lib in
theorem Tryd.strconv_Itoa (n : Int) (h0 : -9223372036854775808 ≤ n) (h1 : n ≤ 9223372036854775807) (w : World) (htab : Lib.TabIs Tryd.prog w "internal/strconv.uint64pow10" .u64 Lib.pow10Tab) :
    Calls Tryd.prog 44 #[.int .i64 n] w fun e w' => e = .returned (.string ⟨(Lib.itoa n).toArray⟩) ∧ ∃ k os, w' = grow (w.drewN k) os := Any.strconv_Itoa Tryd.laysM171 n h0 h1 w htab
def Tryd.laysC172_ren : Go.Shelf.Ren := ⟨fun | 172 => 54 | 244 => 69 | 245 => 70 | 247 => 79 | 279 => 80 | 280 => 81 | 281 => 82 | 282 => 83 | 287 => 90 | 316 => 91 | 171 => 44 | 205 => 92 | 321 => 98 | 322 => 99 | 243 => 58 | 246 => 72 | 283 => 85 | 284 => 86 | 285 => 87 | 286 => 88 | 129 => 94 | 317 => 93 | 318 => 95 | 319 => 96 | 320 => 97 | 337 => 100 | 338 => 101 | n => n, fun | 9 => 9 | 3 => 3 | 75 => 63 | 76 => 64 | 4 => 4 | 5 => 5 | 167 => 130 | 37 => 29 | 0 => 0 | 85 => 131 | 2 => 2 | 168 => 133 | 53 => 138 | 175 => 146 | 46 => 89 | 210 => 149 | 127 => 91 | 145 => 158 | 143 => 156 | 21 => 21 | 171 => 137 | 173 => 141 | 212 => 152 | 51 => 143 | 20 => 20 | 213 => 153 | 232 => 160 | 233 => 161 | 80 => 68 | n => n, fun | 15 => 3 | 16 => 4 | 17 => 5 | 18 => 6 | 19 => 7 | n => n⟩
theorem Tryd.laysC172 : Go.Proofs.LaysC.n172 Tryd.prog Tryd.laysC172_ren := {
  mixed := by kernel_rfl
  f129 := Tryd.func94.trans (congrArg some (by kernel_rfl))
  f171 := Tryd.func44.trans (congrArg some (by kernel_rfl))
  f172 := Tryd.func54.trans (congrArg some (by kernel_rfl))
  f205 := Tryd.func92.trans (congrArg some (by kernel_rfl))
  f243 := Tryd.func58.trans (congrArg some (by kernel_rfl))
  f244 := Tryd.func69.trans (congrArg some (by kernel_rfl))
  f245 := Tryd.func70.trans (congrArg some (by kernel_rfl))
  f246 := Tryd.func72.trans (congrArg some (by kernel_rfl))
  f247 := Tryd.func79.trans (congrArg some (by kernel_rfl))
  f279 := Tryd.func80.trans (congrArg some (by kernel_rfl))
  f280 := Tryd.func81.trans (congrArg some (by kernel_rfl))
  f281 := Tryd.func82.trans (congrArg some (by kernel_rfl))
  f282 := Tryd.func83.trans (congrArg some (by kernel_rfl))
  f283 := Tryd.func85.trans (congrArg some (by kernel_rfl))
  f284 := Tryd.func86.trans (congrArg some (by kernel_rfl))
  f285 := Tryd.func87.trans (congrArg some (by kernel_rfl))
  f286 := Tryd.func88.trans (congrArg some (by kernel_rfl))
  f287 := Tryd.func90.trans (congrArg some (by kernel_rfl))
  f316 := Tryd.func91.trans (congrArg some (by kernel_rfl))
  f317 := Tryd.func93.trans (congrArg some (by kernel_rfl))
  f318 := Tryd.func95.trans (congrArg some (by kernel_rfl))
  f319 := Tryd.func96.trans (congrArg some (by kernel_rfl))
  f320 := Tryd.func97.trans (congrArg some (by kernel_rfl))
  f321 := Tryd.func98.trans (congrArg some (by kernel_rfl))
  f322 := Tryd.func99.trans (congrArg some (by kernel_rfl))
  f337 := Tryd.func100.trans (congrArg some (by kernel_rfl))
  f338 := Tryd.func101.trans (congrArg some (by kernel_rfl))
  t0 := Tryd.underlying0
  a0 := Tryd.isAgg0
  z0 := Tryd.sizeOf0
  v0 := Tryd.zeroValue0
  t2 := Tryd.underlying2
  a2 := Tryd.isAgg2
  z2 := Tryd.sizeOf2
  v2 := Tryd.zeroValue2
  t3 := Tryd.underlying3
  a3 := Tryd.isAgg3
  z3 := Tryd.sizeOf3
  v3 := Tryd.zeroValue3
  t4 := Tryd.underlying4
  a4 := Tryd.isAgg4
  z4 := Tryd.sizeOf4
  v4 := Tryd.zeroValue4
  t5 := Tryd.underlying5
  a5 := Tryd.isAgg5
  z5 := Tryd.sizeOf5
  v5 := Tryd.zeroValue5
  t9 := Tryd.underlying9
  a9 := Tryd.isAgg9
  z9 := Tryd.sizeOf9
  v9 := Tryd.zeroValue9
  t20 := Tryd.underlying20
  a20 := Tryd.isAgg20
  z20 := Tryd.sizeOf20
  v20 := Tryd.zeroValue20
  t21 := Tryd.underlying21
  a21 := Tryd.isAgg21
  z21 := Tryd.sizeOf21
  v21 := Tryd.zeroValue21
  t37 := Tryd.underlying29
  a37 := Tryd.isAgg29
  z37 := Tryd.sizeOf29
  v37 := Tryd.zeroValue29
  t46 := Tryd.underlying89
  a46 := Tryd.isAgg89
  z46 := Tryd.sizeOf89
  v46 := Tryd.zeroValue89
  t51 := Tryd.underlying143
  a51 := Tryd.isAgg143
  z51 := Tryd.sizeOf143
  v51 := Tryd.zeroValue143
  t53 := Tryd.underlying138
  a53 := Tryd.isAgg138
  z53 := Tryd.sizeOf138
  v53 := Tryd.zeroValue138
  t75 := Tryd.underlying63
  a75 := Tryd.isAgg63
  z75 := Tryd.sizeOf63
  v75 := Tryd.zeroValue63
  t76 := Tryd.underlying64
  a76 := Tryd.isAgg64
  z76 := Tryd.sizeOf64
  v76 := Tryd.zeroValue64
  t85 := Tryd.underlying131
  a85 := Tryd.isAgg131
  z85 := Tryd.sizeOf131
  v85 := Tryd.zeroValue131
  t127 := Tryd.underlying91
  a127 := Tryd.isAgg91
  z127 := Tryd.sizeOf91
  v127 := Tryd.zeroValue91
  t143 := Tryd.underlying156
  a143 := Tryd.isAgg156
  z143 := Tryd.sizeOf156
  v143 := Tryd.zeroValue156
  t145 := Tryd.underlying158
  a145 := Tryd.isAgg158
  z145 := Tryd.sizeOf158
  v145 := Tryd.zeroValue158
  t167 := Tryd.underlying130
  a167 := Tryd.isAgg130
  z167 := Tryd.sizeOf130
  v167 := Tryd.zeroValue130
  t168 := Tryd.underlying133
  a168 := Tryd.isAgg133
  z168 := Tryd.sizeOf133
  v168 := Tryd.zeroValue133
  t171 := Tryd.underlying137
  a171 := Tryd.isAgg137
  z171 := Tryd.sizeOf137
  v171 := Tryd.zeroValue137
  t173 := Tryd.underlying141
  a173 := Tryd.isAgg141
  z173 := Tryd.sizeOf141
  v173 := Tryd.zeroValue141
  t175 := Tryd.underlying146
  a175 := Tryd.isAgg146
  z175 := Tryd.sizeOf146
  v175 := Tryd.zeroValue146
  t210 := Tryd.underlying149
  a210 := Tryd.isAgg149
  z210 := Tryd.sizeOf149
  v210 := Tryd.zeroValue149
  t212 := Tryd.underlying152
  a212 := Tryd.isAgg152
  z212 := Tryd.sizeOf152
  v212 := Tryd.zeroValue152
  t213 := Tryd.underlying153
  a213 := Tryd.isAgg153
  z213 := Tryd.sizeOf153
  t232 := Tryd.underlying160
  a232 := Tryd.isAgg160
  z232 := Tryd.sizeOf160
  v232 := Tryd.zeroValue160
  t233 := Tryd.underlying161
  a233 := Tryd.isAgg161
  z233 := Tryd.sizeOf161
  v233 := Tryd.zeroValue161
  g15 := by kernel_rfl
  g16 := by kernel_rfl
  g17 := by kernel_rfl
  g18 := by kernel_rfl
  g19 := by kernel_rfl
  t80 := Tryd.underlying68
  a80 := Tryd.isAgg68
  z80 := Tryd.sizeOf68
  v80 := Tryd.zeroValue68
  i0 := by kernel_rfl
  i2 := by kernel_rfl
  i3 := by kernel_rfl
  i4 := by kernel_rfl
  i5 := by kernel_rfl
  i9 := by kernel_rfl
  i20 := by kernel_rfl
  i21 := by kernel_rfl
  i37 := by kernel_rfl
  i46 := by kernel_rfl
  i51 := by kernel_rfl
  i53 := by kernel_rfl
  i75 := by kernel_rfl
  i76 := by kernel_rfl
  i80 := by kernel_rfl
  i85 := by kernel_rfl
  i127 := by kernel_rfl
  i143 := by kernel_rfl
  i145 := by kernel_rfl
  i167 := by kernel_rfl
  i168 := by kernel_rfl
  i171 := by kernel_rfl
  i173 := by kernel_rfl
  i175 := by kernel_rfl
  i210 := by kernel_rfl
  i212 := by kernel_rfl
  i232 := by kernel_rfl
  i233 := by kernel_rfl
  m15 := by kernel_rfl
  m16 := by kernel_rfl
  m17 := by kernel_rfl
  m18 := by kernel_rfl
  m19 := by kernel_rfl
  c0 := by kernel_rfl
  c2 := by kernel_rfl
  c3 := by kernel_rfl
  c4 := by kernel_rfl
  c5 := by kernel_rfl
  c9 := by kernel_rfl
  c20 := by kernel_rfl
  c21 := by kernel_rfl
  c37 := by kernel_rfl
  c46 := by kernel_rfl
  c51 := by kernel_rfl
  c53 := by kernel_rfl
  c75 := by kernel_rfl
  c76 := by kernel_rfl
  c80 := by kernel_rfl
  c85 := by kernel_rfl
  c127 := by kernel_rfl
  c143 := by kernel_rfl
  c145 := by kernel_rfl
  c167 := by kernel_rfl
  c168 := by kernel_rfl
  c171 := by kernel_rfl
  c173 := by kernel_rfl
  c175 := by kernel_rfl
  c210 := by kernel_rfl
  c212 := by kernel_rfl
  c213 := by kernel_rfl
  c232 := by kernel_rfl
  c233 := by kernel_rfl }
open Go.RowKit in
theorem Tryd.strconv_Atoi_ok (s : ByteArray) (hmax : s.size ≤ 9223372036854775806) (v : Int) (h : Lib.atoiAll s.data.toList = .ok v) (w : World) :
    Calls Tryd.prog 54 #[.string s] w fun e w' => e = .returned (.tuple #[.int .i64 v, .nilIface]) ∧ (w' = w ∨ ∃ t, w' = Lib.bytesWorld w 5 t) := Any.strconv_Atoi_ok Tryd.laysC172 s hmax v h w
open Go.RowKit in
theorem Tryd.strconv_Atoi_syntax (s : ByteArray) (hlim : s.size ≤ 281474976710656) (h : Lib.atoiAll s.data.toList = Lib.atoiAll []) (ev : Value) (w : World) (hv : w.cell? ⟨3, 0, none⟩ = some ev) (hev : ev = .nilIface ∨ ∃ te pe, ev = .iface te pe) :
    Calls Tryd.prog 54 #[.string s] w fun e w' => ∃ N, e = .returned (.tuple #[.int .i64 (0), .iface 133 (.pointer (some ⟨N, 0, none⟩))]) ∧ w.heap.size ≤ N ∧ w'.heap[N]? = some (.cells #[.string ⟨#[65, 116, 111, 105]⟩, .string s, ev] 149 (0, 0)) ∧ Below w.heap.size w w' := Any.strconv_Atoi_syntax Tryd.laysC172 s hlim (h.trans rfl) ev w hv hev
open Go.RowKit in
theorem Tryd.strconv_Atoi_range (s : ByteArray) (hlim : s.size ≤ 281474976710656) (h : Lib.atoiAll s.data.toList = .range) (ev : Value) (w : World) (hv : w.cell? ⟨4, 0, none⟩ = some ev) (hev : ev = .nilIface ∨ ∃ te pe, ev = .iface te pe) :
    Calls Tryd.prog 54 #[.string s] w fun e w' => ∃ N, e = .returned (.tuple #[.int .i64 (Lib.atoiSat s.data.toList), .iface 133 (.pointer (some ⟨N, 0, none⟩))]) ∧ w.heap.size ≤ N ∧ w'.heap[N]? = some (.cells #[.string ⟨#[65, 116, 111, 105]⟩, .string s, ev] 149 (0, 0)) ∧ Below w.heap.size w w' := Any.strconv_Atoi_range Tryd.laysC172 s hlim h ev w hv hev
end Go.Proofs.YtlkaaoekbmegkaaDoor
namespace Go.Proofs.YtlkaaoekbmegkaaDoor
set_option linter.all false
open Go.RowKit
open Go.Lib (index hasPrefix trimPrefix cut indexAny)
theorem Vl.tup2 {w : World} {S : Nat → Prop} {ρ : Rho} {x y : AV} {u v : Value} (h : Vl1 w S ρ x u) (k : Vl1 w S ρ y v) : Vl w S ρ (.tup [x, y]) (.tuple #[u, v]) :=
  ⟨[u, v], rfl, rfl, fun i hi => by
    match i, hi with
    | 0, _ => exact h
    | 1, _ => exact k⟩
theorem Vl.tup3 {w : World} {S : Nat → Prop} {ρ : Rho} {x y z : AV} {u v t : Value} (h : Vl1 w S ρ x u) (k : Vl1 w S ρ y v) (m : Vl1 w S ρ z t) : Vl w S ρ (.tup [x, y, z]) (.tuple #[u, v, t]) :=
  ⟨[u, v, t], rfl, rfl, fun i hi => by
    match i, hi with
    | 0, _ => exact h
    | 1, _ => exact k
    | 2, _ => exact m⟩
def unS : AV → List UInt8
  | .str l => l
  | _ => []
end Go.Proofs.YtlkaaoekbmegkaaDoor
namespace Go.Proofs.YtlkaaoekbmegkaaDoor
set_option linter.all false
open Go.RowKit
def asciiB (p : List UInt8) : Bool := p.all (fun b => decide (b.toNat < 128)) && decide (2 ≤ p.length) && decide (p.length ≤ 8)
structure AsciiSet (C : ByteArray) : Prop where
  low : ∀ b ∈ C.data.toList, b.toNat < 128
  two : 2 ≤ C.size
  few : C.size ≤ 8
theorem asciiSet_of {p : List UInt8} (h : asciiB p = true) : AsciiSet ⟨p.toArray⟩ := by
  simp only [asciiB, Bool.and_eq_true, List.all_eq_true, decide_eq_true_eq] at h
  exact ⟨h.1.1, h.1.2, h.2⟩
section
variable {C : ByteArray} (hA : AsciiSet C)
include hA
theorem set_hi (b : UInt8) (hb : 128 ≤ b.toNat) : C.data.toList.contains b = false := by
  rw [Bool.eq_false_iff]
  intro h
  have := hA.low b (by simpa using h)
  omega
theorem set_get (i : Nat) (h : i < C.size) : (C[i]'h).toNat < 128 := by
  refine hA.low _ ?_
  have := Lib.data_getElem? C i h
  exact List.mem_of_getElem? this
theorem ibS (n : Nat) (b : UInt8) (hb : 128 ≤ b.toNat) : Lib.indexByte (List.take (C.size - (n + 1)) (List.drop (n + 1) C.data.toList)) b = -1 := by
  have gen : ∀ l : List UInt8, (∀ x ∈ l, x.toNat < 128) → Lib.indexByte l b = -1 := by
    intro l
    induction l with
    | nil => intro _; rfl
    | cons x l ih =>
      intro h
      have hx := h x (by simp)
      have e : (x == b) = false := beq_eq_false_iff_ne.2 (by rintro rfl; omega)
      simp [Lib.indexByte, e, ih fun y hy => h y (by simp [hy])]
  exact gen _ fun x hx => hA.low x (List.mem_of_mem_drop (List.mem_of_mem_take hx))
end
theorem encode_hi (r : Int) (h : 128 ≤ r) : ∃ l : List UInt8, (Utf8.encode r).data.toList = l ∧ 2 ≤ l.length ∧ l.length ≤ 4 ∧ 128 ≤ (l.getD (l.length - 1) 0).toNat := by
  refine ⟨_, rfl, ?_⟩
  unfold Utf8.encode
  dsimp only
  have hc : 128 ≤ (if Utf8.valid r = true then r.toNat else Utf8.runeError) := by
    split
    · omega
    · decide
  generalize (if Utf8.valid r = true then r.toNat else Utf8.runeError) = c at *
  by_cases h2 : c < 2048
  · simp [show ¬ c < 128 by omega, h2]; omega
  · by_cases h3 : c < 65536
    · simp [show ¬ c < 128 by omega, h2, h3]; omega
    · simp [show ¬ c < 128 by omega, h2, h3]; omega
set_option maxHeartbeats 2000000 in
set_option maxRecDepth 1000000 in
theorem indexRune_err {C : ByteArray} (hA : AsciiSet C) (w : World) :
    Calls Tryd.prog 59 #[.string C, .int .i32 65533] w fun e w' => e = .returned (.int .i64 (-1)) ∧ Below w.heap.size w w' := by
  have HA : Aside (AsciiSet C) := hA
  clear hA
  go_enter Tryd.func59, Tryd.ntmps59
  go_wp2
  go_loopg [5, 6] C.size (fun g _ _ wx => ∃ i : Nat, i + g = C.size ∧ wx = w.iter C i)
  case atStart => exact ⟨0, by omega, rfl⟩
  case round =>
    obtain ⟨i, hig, rfl⟩ := hrel
    cases gk with
    | zero =>
      obtain rfl : i = C.size := by omega
      have hnx := fun ty => run_next_end (P := Tryd.prog) w C C.size ty (by omega)
      go_wp2
      go_ret
      exact ⟨rfl, (Below.refl _ _).alloc (Nat.le_refl _) _⟩
    | succ g =>
      have hlt : i < C.size := by omega
      have hnx := fun ty => run_next_ascii (P := Tryd.prog) w C i ty hlt (set_get HA.out i hlt)
      obtain ⟨z, hz⟩ : ∃ z : Int, ((C[i]'hlt).toNat : Int) = z := ⟨_, rfl⟩
      have hz2 : z < 128 := by have := set_get HA.out i hlt; omega
      rw [hz] at hnx
      clear hz
      have hne : (z == (65533 : Int)) = false := beq_eq_false_iff_ne.2 (by omega)
      have hne2 : decide (z = (65533 : Int)) = false := decide_eq_false (by omega)
      go_wp2
      go_roundg g
      case measure => omega
      case rel => exact ⟨i + 1, by omega, rfl⟩
set_option maxHeartbeats 2000000 in
set_option maxRecDepth 1000000 in
theorem indexRune_far {C : ByteArray} (hA : AsciiSet C) (r : Int) (w : World) (h0 : 128 ≤ r) (h1 : r ≤ 2147483647) (h2 : r ≠ 65533) :
    Calls Tryd.prog 59 #[.string C, .int .i32 r] w fun e w' => e = .returned (.int .i64 (-1)) ∧ Below w.heap.size w w' := by
  obtain ⟨l, hl, l1, l2, l3⟩ := encode_hi r h0
  obtain ⟨E, hE⟩ : ∃ E, Utf8.encode r = E := ⟨_, rfl⟩
  rw [hE] at hl
  have hsz : E.size = l.length := by rw [← hl]; exact Lib.size_eq E
  have d0 : decide ((0 : Int) ≤ r) = true := decide_eq_true (by omega)
  have d1 : decide (r < (128 : Int)) = false := decide_eq_false (by omega)
  have d2 : (r == (65533 : Int)) = false := beq_eq_false_iff_ne.2 h2
  obtain ⟨b, hb⟩ : ∃ b : UInt8, l.getD (l.length - 1) 0 = b := ⟨_, rfl⟩
  rw [hb] at l3
  have hc0 : (l.length : Int) - 1 = ((l.length - 1 : Nat) : Int) := by omega
  have hix : ∀ w, (Instr.index 9 (.string E) (.int .i64 ((l.length - 1 : Nat) : Int))).run Tryd.prog w = .ok (.int .u8 (b.toNat : Int)) w := by
    intro w
    have hlt : l.length - 1 < E.size := by omega
    have hget : E[l.length - 1] = b := by
      have h := Lib.data_getElem? E (l.length - 1) hlt
      rw [hl] at h
      rw [← hb, List.getD_eq_getElem?_getD, h]; rfl
    rw [run_index_string w 9 E .i64 _ Tryd.underlying9]
    have hw1 : (0 : Int) ≤ ((l.length - 1 : Nat) : Int) := by omega
    simp [hw1, hlt, hget]
  have hsx : l.length - 1 < C.size → ∃ c : Int, c < 128 ∧ ∀ w, (Instr.index 9 (.string C) (.int .i64 ((l.length - 1 : Nat) : Int))).run Tryd.prog w = .ok (.int .u8 c) w := by
    generalize l.length - 1 = n
    intro h
    refine ⟨((C[n]'h).toNat : Int), by have := set_get hA n h; omega, fun w => ?_⟩
    rw [run_index_string w 9 C .i64 _ Tryd.underlying9]
    have hw1 : (0 : Int) ≤ (n : Int) := by omega
    simp [hw1, h]
  have HA : Aside (AsciiSet C) := hA
  clear hA
  have hcv : ∀ w, (convert 21 9 (.int .i32 r)).run Tryd.prog w = .ok (.string E) w := by
    intro w; rw [run_convert_int_string w _ _ .i32 r (by kernel_rfl) Tryd.underlying9, hE]
  cases hv : Lib.validRune r with
  | false =>
    go_enter Tryd.func59, Tryd.ntmps59
    go_wp2_with (at_builtin; refine stopAt ?_)
    refine (Tryd.utf8_ValidRune _ _).mono ?_
    rintro e w' ⟨rfl, rfl⟩
    rw [hv]
    go_wp2
    go_ret
    exact ⟨rfl, Below.refl _ _⟩
  | true =>
    go_enter Tryd.func59, Tryd.ntmps59
    go_wp2_with (at_builtin; refine stopAt ?_)
    refine (Tryd.utf8_ValidRune _ _).mono ?_
    rintro e w' ⟨rfl, rfl⟩
    rw [hv]
    go_wp2
    apply wp_scope_straight
    go_wp2
    obtain ⟨n, hn⟩ : ∃ n, l.length - 1 = n := ⟨_, rfl⟩
    rw [hn] at hix hsx
    rw [hn]
    have hn4 : n < 4 := by omega
    clear hl hsz hcv hc0 d0 d1 d2 hE hb
    go_loopw [9] (fun i wr => i = .int .i64 (n : Int) ∧ wr = w') (fun _ _ => 0)
    case atStart => exact ⟨rfl, rfl⟩
    case round =>
      obtain ⟨rfl, rfl⟩ := hrel
      by_cases h3 : n < C.size
      · have d3 : decide ((n : Int) < (C.size : Int)) = true := decide_eq_true (by omega)
        obtain ⟨c, hcl, hcx⟩ := hsx h3
        have hne : (c != (b.toNat : Int)) = true := by simp; omega
        have hib := ibS HA.out n b l3
        have hw1 : IntKind.i64.wrap ((n : Int) + 1) = (n : Int) + 1 := IntWalk.i64_in _ (by omega)
        have hn0 : (0 : Int) ≤ (n : Int) + 1 := by omega
        have hn1 : ((n : Int) + 1).toNat = n + 1 := by omega
        have hn2 : (n : Int) + 1 ≤ (C.size : Int) := by omega
        have hsl : ∀ w, (Instr.slice 9 (.string C) (some (.int .i64 ((n : Int) + 1))) none none).run Tryd.prog w = .ok (.string (C.extract (n + 1) C.size)) w := by
          intro w; rw [run_slice_string_l w _ _ Tryd.underlying9 .i64 _ hn0 hn2, hn1]
        go_wp2
        apply wp_scope_straight
        go_wp2
        go_quiet (fail)
        go_wp2
        go_quiet (exact (Tryd.strings_IndexByte _ _ _).mono fun e w' ⟨h1, h2⟩ => ⟨h1, _, h2⟩)
        go_wp2
        repeat (first | rw [Exit.noGoto_ret] | rw [show ∀ (k : Nat) (Q : Exit → Act → World → Prop), Exit.inBlock k Q .ret = Q .ret from fun _ _ => rfl])
        simp +zetaDelta only [Exit.noGoto_ret, Exit.inBlock, Exit.then]
        go_ret
        exact ⟨rfl, belowN (Below.refl _ _) _⟩
      · have d3 : decide ((n : Int) < (C.size : Int)) = false := decide_eq_false (by omega)
        go_wp2
        simp only [Exit.noGoto_ret]
        go_ret
        exact ⟨rfl, Below.refl _ _⟩
theorem indexRune_hi {C : ByteArray} (hA : AsciiSet C) (r : Int) (w : World) (h0 : 128 ≤ r) (h1 : r ≤ 2147483647) :
    Calls Tryd.prog 59 #[.string C, .int .i32 r] w fun e w' => e = .returned (.int .i64 (-1)) ∧ Below w.heap.size w w' := by
  by_cases h2 : r = 65533
  · subst h2; exact indexRune_err hA w
  · exact indexRune_far hA r w h0 h1 h2
theorem decode_span (s : ByteArray) (pos : Nat) (h : pos < s.size) (ha : 128 ≤ (s[pos]'h).toNat) : ∀ k, k < (Utf8.decode s pos).2 → pos + k < s.size ∧ 128 ≤ (s.get! (pos + k)).toNat := by
  have h0 : pos + 0 < s.size ∧ 128 ≤ (s.get! (pos + 0)).toNat := ⟨h, by rw [get_at s pos h]; exact ha⟩
  have hc : ∀ k, (decide (pos + k < s.size) && (s.get! (pos + k)).toNat / 64 == 2) = true → pos + k < s.size ∧ 128 ≤ (s.get! (pos + k)).toNat := by
    intro k hk
    simp only [Bool.and_eq_true, decide_eq_true_eq, beq_iff_eq] at hk
    exact ⟨hk.1, by omega⟩
  have hn : ¬ (s[pos]'h).toNat < 128 := by omega
  have key : ∀ n, n = (Utf8.decode s pos).2 → ∀ k, k < n → pos + k < s.size ∧ 128 ≤ (s.get! (pos + k)).toNat := by
    intro n
    simp only [Utf8.decode, get_at s pos h, hn, if_false]
    repeat' split
    all_goals (
      rintro rfl k hk
      simp only [Bool.and_eq_true] at *
      match k, hk with
      | 0, _ => exact h0
      | 1, _ => first | omega | exact hc 1 (by simp_all)
      | 2, _ => first | omega | exact hc 2 (by simp_all)
      | 3, _ => first | omega | exact hc 3 (by simp_all)
      | k + 4, _ => omega)
  exact key _ rfl
theorem getB (s : ByteArray) (j : Nat) (h : j < s.size) : s.data.toList[j]? = some (s.get! j) := by
  rw [Lib.data_getElem? s j h]
  congr 1
  have := get_at s j h
  rw [Nat.add_zero] at this
  exact this.symm
theorem run_next_at (wx : World) (k : Nat) (s : ByteArray) (pos : Nat) (ty : TypeId) (hk : wx.heap[k]? = some (.stringIter s pos)) (h : pos < s.size) :
    (Instr.next (.pointer (some ⟨k, 0, none⟩)) true ty).run Tryd.prog wx =
      .ok (.tuple #[.bool true, .int .i64 pos, .int .i32 (Utf8.decode s pos).1]) { wx with heap := wx.heap.setIfInBounds k (.stringIter s (pos + (Utf8.decode s pos).2)) } := by
  simp only [Instr.next, getObj, setObj, Sem.run_bind, Sem.run, hk, Result.andThen, h, if_true]
  simp [goInt]
theorem run_next_stop (wx : World) (k : Nat) (s : ByteArray) (pos : Nat) (ty : TypeId) (hk : wx.heap[k]? = some (.stringIter s pos)) (h : ¬ pos < s.size) :
    (Instr.next (.pointer (some ⟨k, 0, none⟩)) true ty).run Tryd.prog wx = .ok (.tuple #[.bool false]) wx := by
  simp [Instr.next, getObj, Sem.run, hk, h]
theorem below_iter {w wx : World} {k : Nat} {o : Obj} (h : Below w.heap.size w wx) (hk : w.heap.size ≤ k) : Below w.heap.size w { wx with heap := wx.heap.setIfInBounds k o } :=
  ⟨h.os, h.tape, h.output, by simpa using h.size, fun j hj => by rw [← h.block j hj]; simp [Array.getElem?_setIfInBounds, show k ≠ j by omega]⟩
set_option maxHeartbeats 8000000 in
set_option maxRecDepth 1000000 in
theorem indexAny_short {C : ByteArray} (hA : AsciiSet C) (s : ByteArray) (w : World) (h8 : s.size ≤ 8) :
    Calls Tryd.prog 45 #[.string s, .string C] w fun e w' => e = .returned (.int .i64 (Lib.indexAny s.data.toList C.data.toList)) ∧ Below w.heap.size w w' := by
  have htwo := hA.two
  have hemp : C.toList.isEmpty = false := by
    rw [Lib.toList_data]
    cases h : C.data.toList with
    | nil => have := Lib.size_eq C; rw [h, List.length_nil] at this; omega
    | cons => rfl
  have hn1 : ((C.size : Int) == 1) = false := by
    rw [beq_eq_false_iff_ne]
    intro h
    have h : (C.size : Int) = 1 := h
    omega
  have HA : Aside (AsciiSet C) := hA
  clear hA htwo
  have h8z : decide ((8 : Int) < (s.size : Int)) = false := decide_eq_false (by omega)
  go_enter Tryd.func45, Tryd.ntmps45
  go_wp2_with (at_builtin; refine stopAt ?_)
  refine (Tryd.strings_shouldUseASCIISet _ _).mono ?_
  rintro e w' ⟨rfl, rfl⟩
  rw [h8z]
  go_wp2
  have hlen : s.data.toList.length = s.size := (Lib.size_eq s).symm
  go_loopg [9, 10] s.size (fun g _ _ wx => ∃ p : Nat, p + g = s.size ∧ Below w'.heap.size w' wx ∧ wx.heap[w'.heap.size]? = some (.stringIter s p) ∧ Lib.NoAny s.data.toList C.data.toList p)
  case atStart => exact ⟨0, by omega, (Below.refl _ _).alloc (Nat.le_refl _) _, World.iter_heap _ _ _, Lib.NoAny.zero _ _⟩
  case round =>
    obtain ⟨p, hps, hbel, hit, hno⟩ := hrel
    have HN : Aside (Lib.NoAny s.data.toList C.data.toList p) := hno
    have HB : Aside (Below w'.heap.size w' wr) := hbel
    clear hno hbel
    have hlb : w'.heap.size < wr.heap.size := (Array.getElem?_eq_some_iff.1 hit).1
    by_cases hlt : p < s.size
    · have hnx := fun ty => run_next_at wr w'.heap.size s p ty hit hlt
      obtain ⟨x, hx⟩ : ∃ x : UInt8, s[p]'hlt = x := ⟨_, rfl⟩
      have hxl : s.data.toList[p]? = some x := by rw [← hx]; exact Lib.data_getElem? s p hlt
      by_cases hx128 : x.toNat < 128
      · have hd := decode_ascii s p hlt (by rw [hx]; exact hx128)
        rw [hx] at hd
        rw [hd] at hnx
        obtain ⟨wn, hwn⟩ : ∃ wn : World, { wr with heap := wr.heap.setIfInBounds w'.heap.size (.stringIter s (p + 1)) } = wn := ⟨_, rfl⟩
        have Hn : Aside (Below w'.heap.size w' wn ∧ wn.heap[w'.heap.size]? = some (.stringIter s (p + 1))) := by
          rw [← hwn]; exact ⟨below_iter HB.out (Nat.le_refl _), by simp [hlb]⟩
        simp only [hwn] at hnx
        have hcon := Lib.contains_iff_indexByte C.data.toList x
        have hback : ((x.toNat : Int)).toNat.toUInt8 = x := by simp
        have Hx : Aside (s.data.toList[p]? = some x) := hxl
        clear hxl hx hd
        cases hin : C.data.toList.contains x with
        | false =>
          rw [hin] at hcon
          have hlt0 : decide ((0 : Int) ≤ Lib.indexByte C.data.toList x) = false := hcon.symm
          clear hcon
          go_wp2_with (at_builtin; refine stopAt ?_)
          refine (Tryd.strings_IndexRune_ascii _ _ _ (by omega) (by omega)).mono ?_
          rintro e w3 ⟨rfl, rfl⟩
          rw [hback]
          go_wp2
          obtain ⟨g, rfl⟩ : ∃ g, gk = g + 1 := ⟨gk - 1, by omega⟩
          go_roundg g
          case measure => omega
          case rel => exact ⟨p + 1, by omega, Hn.out.1, Hn.out.2, HN.out.succ Hx.out hin⟩
        | true =>
          rw [hin] at hcon
          have hlt0 : decide ((0 : Int) ≤ Lib.indexByte C.data.toList x) = true := hcon.symm
          clear hcon
          go_wp2_with (at_builtin; refine stopAt ?_)
          refine (Tryd.strings_IndexRune_ascii _ _ _ (by omega) (by omega)).mono ?_
          rintro e w3 ⟨rfl, rfl⟩
          rw [hback]
          go_wp2
          go_ret
          exact ⟨by rw [Lib.indexAny_hit HN.out Hx.out hin]; rfl, Hn.out.1⟩
      · have hd := decode_high s p hlt (by rw [hx]; omega)
        have hsp := decode_span s p hlt (by rw [hx]; omega)
        have hle := decode_le s p
        obtain ⟨⟨c, n⟩, hcn⟩ : ∃ cn, Utf8.decode s p = cn := ⟨_, rfl⟩
        rw [hcn] at hnx hd hsp hle
        simp only at hnx hd hsp hle
        obtain ⟨wn, hwn⟩ : ∃ wn : World, { wr with heap := wr.heap.setIfInBounds w'.heap.size (.stringIter s (p + n)) } = wn := ⟨_, rfl⟩
        have Hn : Aside (Below w'.heap.size w' wn ∧ wn.heap[w'.heap.size]? = some (.stringIter s (p + n))) := by
          rw [← hwn]; exact ⟨below_iter HB.out (Nat.le_refl _), by simp [hlb]⟩
        simp only [hwn] at hnx
        have HS : Aside (∀ k, k < n → p + k < s.size ∧ 128 ≤ (s.get! (p + k)).toNat) := hsp
        clear hsp hcn hxl hx
        go_wp2_with (at_builtin; refine stopAt ?_)
        refine (indexRune_hi HA.out (c : Int) _ (by omega) (by omega)).mono ?_
        rintro e w3 ⟨rfl, hb3⟩
        have hp : p + n ≤ s.size := by have := (HS.out (n - 1) (by omega)).1; omega
        have Hn3 : Aside (Below w'.heap.size w' w3 ∧ w3.heap[w'.heap.size]? = some (.stringIter s (p + n))) := by
          obtain ⟨h1, h2⟩ := Hn.out
          have h3 : w'.heap.size < wn.heap.size := (Array.getElem?_eq_some_iff.1 h2).1
          exact ⟨h1.trans ⟨hb3.os, hb3.tape, hb3.output, hb3.size, fun k hk => hb3.block k (by omega)⟩, by rw [hb3.block _ h3]; exact h2⟩
        clear hb3
        go_wp2
        obtain ⟨g, hg⟩ : ∃ g, p + n + g = s.size := ⟨s.size - (p + n), by omega⟩
        go_roundg g
        case measure => omega
        case rel =>
          refine ⟨p + n, by omega, Hn3.out.1, Hn3.out.2, fun j b hj hb => ?_⟩
          rcases Nat.lt_or_ge j p with h | h
          · exact HN.out j b h hb
          · obtain ⟨k, rfl⟩ : ∃ k, j = p + k := ⟨j - p, by omega⟩
            obtain ⟨k1, k2⟩ := HS.out k (by omega)
            rw [getB s _ k1] at hb
            injection hb with hb
            subst hb
            generalize s.get! (p + k) = b at *
            exact set_hi HA.out b k2
    · have hnx := fun ty => run_next_stop wr w'.heap.size s p ty hit hlt
      obtain rfl : p = s.size := by omega
      go_wp2
      go_ret
      exact ⟨by rw [Lib.indexAny_none (by rw [← Lib.size_eq]; exact HN.out)]; rfl, HB.out⟩
end Go.Proofs.YtlkaaoekbmegkaaDoor
namespace Go.Proofs.YtlkaaoekbmegkaaDoor
set_option linter.all false
open Go.RowKit
def digB (b : UInt8) : Bool := decide (48 ≤ b.toNat) && decide (b.toNat ≤ 57)
def zonP (x : Nat) : Bool := decide (x < 48) || decide (57 < x)
set_option maxHeartbeats 1000000 in
theorem zoned1_walk (x : Nat) (w : World) : Calls Tryd.prog 57 #[.int .i32 (x : Int)] w fun e w' => e = .returned (.bool (zonP x)) ∧ ∃ q, w' = w.drewN q := by
  have e1 : decide ((x : Int) < 48) = decide (x < 48) := by rw [Bool.eq_iff_iff]; simp; omega
  have e2 : decide ((57 : Int) < (x : Int)) = decide (57 < x) := by rw [Bool.eq_iff_iff]; simp; omega
  go_enter Tryd.func57, Tryd.ntmps57
  unfold zonP
  cases h1 : decide (x < 48) <;> cases h2 : decide (57 < x) <;> rw [h1] at e1 <;> rw [h2] at e2
  all_goals (go_wp2; go_ret; exact ⟨rfl, 0, rfl⟩)
theorem zonF (s : List UInt8) : ∀ (f pos : Nat), s.length - pos ≤ f → (0 ≤ Lib.idxFuncFrom zonP true ⟨s.toArray⟩ f pos ↔ (s.drop pos).all digB = false) := by
  have hsz : (⟨s.toArray⟩ : ByteArray).size = s.length := rfl
  intro f
  induction f with
  | zero =>
    intro pos h
    have : s.drop pos = [] := List.drop_eq_nil_of_le (by omega)
    rw [this]; simp [Lib.idxFuncFrom]
  | succ f ih =>
    intro pos h
    unfold Lib.idxFuncFrom
    by_cases hp : pos < s.length
    · rw [if_pos (by rw [hsz]; exact hp)]
      have hd : s.drop pos = s[pos] :: s.drop (pos + 1) := List.drop_eq_getElem_cons hp
      have hg : ((⟨s.toArray⟩ : ByteArray)[pos]'hp) = s[pos] := rfl
      by_cases hb : (s[pos]).toNat < 128
      · have hdc := decode_ascii ⟨s.toArray⟩ pos hp (by rw [hg]; exact hb)
        rw [hg] at hdc
        rw [hdc]
        simp only
        by_cases hz : zonP (s[pos]).toNat = true
        · rw [if_pos hz, hd]
          have : digB s[pos] = false := by
            unfold digB; unfold zonP at hz
            simp only [Bool.or_eq_true, decide_eq_true_eq] at hz
            rw [Bool.and_eq_false_iff]
            rcases hz with h | h
            · exact .inl (decide_eq_false (by omega))
            · exact .inr (decide_eq_false (by omega))
          rw [List.all_cons, this, Bool.false_and]
          simp
        · rw [if_neg hz, ih (pos + 1) (by omega), hd]
          have : digB s[pos] = true := by
            unfold digB; unfold zonP at hz
            simp only [Bool.or_eq_true, decide_eq_true_eq] at hz
            simp; omega
          rw [List.all_cons, this, Bool.true_and]
      · have hh := decode_high ⟨s.toArray⟩ pos hp (by rw [hg]; omega)
        have hz : zonP (Utf8.decode ⟨s.toArray⟩ pos).1 = true := by
          unfold zonP
          simp only [Bool.or_eq_true, decide_eq_true_eq]
          exact .inr (by omega)
        rw [if_pos hz, hd]
        have : digB s[pos] = false := by
          unfold digB; rw [Bool.and_eq_false_iff]; exact .inr (decide_eq_false (by omega))
        rw [List.all_cons, this, Bool.false_and]
        simp
    · rw [if_neg (by rw [hsz]; exact hp)]
      have : s.drop pos = [] := List.drop_eq_nil_of_le (by omega)
      rw [this]; simp
def cfZoneS : Spec := fun xs hp => match xs, hp with
  | [.str s, .fn (.func g) [] []], [] => some ⟨.bool (!s.all digB), [], g = 57⟩
  | _, _ => none
theorem cfZone_ok : FnOk Tryd.prog 56 cfZoneS := by
  refine fnok_of_calls fun xs0 hp r hs hp' => ?_
  unfold cfZoneS at hs
  split at hs
  · rename_i s g
    injection hs with hs; subst hs
    have hg : g = 57 := hp'
    subst hg
    refine ⟨rfl, rfl, fun w S ρ args hS ha => ?_⟩
    obtain ⟨v, vs, rfl, hv, hr⟩ := ha.get _ _ rfl
    obtain ⟨u, us, rfl, hu, hr⟩ := hr.get _ _ rfl
    obtain rfl := hr.none
    have hu' : u = .func (.func 57) #[] #[] := by
      rcases hu with h | ⟨ws, h, e⟩
      · cases h
      · cases h with
        | fn _ _ _ a b h1 h2 =>
          have ea : a = [] := List.eq_nil_of_length_eq_zero (by simpa using h1)
          have eb : b = [] := List.eq_nil_of_length_eq_zero (by simpa using h2)
          subst ea eb
          exact e
    rw [hv.str, hu']
    refine (Tryd.strings_ContainsFunc_runes 57 #[] (fun args w => by
      have hin : FnIn Tryd.prog 57 := fnInB_ok (by kernel_rfl)
      obtain ⟨fn, h1, h2, h3⟩ := hin
      have h2' : ¬ fn.name = "runtime.NumGoroutine" := by simpa using h2
      have h3' : ¬ fn.body = none := by intro e; rw [e] at h3; cases h3
      simp [callFunc, program, Sem.run, h1, h2', h3']) zonP ⟨s.toArray⟩ w (fun W x _ _ => by
        have := zoned1_walk x W
        exact this)).mono ?_
    rintro e w' ⟨rfl, hb⟩
    refine ⟨_, rfl, hb, fun _ _ _ => ?_⟩
    have h := zonF s s.length 0 (by omega)
    rw [List.drop_zero] at h
    have e1 : (!s.all digB) = decide (0 ≤ Lib.idxFunc zonP true ⟨s.toArray⟩) := by
      rw [Bool.eq_iff_iff]
      simp only [Bool.not_eq_true', decide_eq_true_eq]
      exact h.symm
    rw [e1]
    exact Vl.bool' _
  · cases hs
end Go.Proofs.YtlkaaoekbmegkaaDoor
namespace Go.Proofs.YtlkaaoekbmegkaaDoor
set_option linter.all false
open Go.RowKit
open Go.Lib (index hasPrefix trimPrefix cut indexAny)
def idxAnyS : Spec := fun xs hp => match xs, hp with
  | [.str s, .str p], [] => some ⟨.int .i64 (indexAny s p), [], asciiB p = true ∧ s.length < 4294967281⟩
  | _, _ => none
theorem idxAny_ok : FnOk Tryd.prog 45 idxAnyS := by
  refine fnok_of_calls fun xs0 hp r hs hp' => ?_
  unfold idxAnyS at hs
  split at hs
  · rename_i s p
    injection hs with hs; subst hs
    obtain ⟨p1, p2⟩ := hp'
    have hA := asciiSet_of p1
    refine ⟨rfl, rfl, fun w S ρ args hS ha => ?_⟩
    obtain ⟨v, vs, rfl, hv, hr⟩ := ha.get _ _ rfl
    obtain ⟨u, us, rfl, hu, hr⟩ := hr.get _ _ rfl
    obtain rfl := hr.none
    rw [hv.str, hu.str]
    have hs0 : (⟨s.toArray⟩ : ByteArray).size = s.length := by rw [Lib.size_eq]
    have hc0 : (⟨p.toArray⟩ : ByteArray).size = p.length := by rw [Lib.size_eq]
    have h2 := hA.two
    have h3 := hA.few
    by_cases h8 : s.length ≤ 8
    · refine (indexAny_short hA ⟨s.toArray⟩ w (by rw [hs0]; exact h8)).mono ?_
      rintro e w' ⟨rfl, hb⟩
      exact ⟨_, rfl, hb, fun _ _ _ => Vl.int' _ _⟩
    · refine (Tryd.strings_IndexAny_long (fun w => by kernel_rfl) ⟨s.toArray⟩ ⟨p.toArray⟩ w (by omega) (by rw [hs0]; omega) (by rw [hs0]; exact p2) (by omega) (fun j b hb => hA.low b (List.mem_of_getElem? hb))).mono ?_
      rintro e w' ⟨rfl, rfl⟩
      exact ⟨_, rfl, ((Below.refl _ _).alloc (Nat.le_refl _) _).alloc (by simp) _, fun _ _ _ => Vl.int' _ _⟩
  · cases hs
end Go.Proofs.YtlkaaoekbmegkaaDoor
