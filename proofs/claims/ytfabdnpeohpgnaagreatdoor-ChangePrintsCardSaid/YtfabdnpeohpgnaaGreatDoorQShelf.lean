import Derived.Shelf.Strings.Builder1
import Derived.Shelf.Small.Utf8
import Derived.Shelf.Small.Strs
import Derived.Shelf.Small.Wraps
import Derived.Shelf.Strconv.Itoa0
import Derived.Shelf.LaysM
import Derived.Shelf.Strconv.Itoa3
import Derived.Shelf.LaysC
import Derived.Shelf.Strconv.AtoiAll
import Derived.Shelf.Strings.Search1
import Derived.Shelf.Strings.Search3
import Derived.Shelf.Strings.Cut
import Derived.Shelf.Strings.Split
import Derived.Shelf.Strings.Runes
import Derived.Shelf.Strings.IndexAny
import Derived.Shelf.Strings.IndexAnyAll
import Derived.Test.YtfabdnpeohpgnaaGreatDoorProg
import Derived.Test.YtfabdnpeohpgnaaGreatDoorQAMS
import Derived.Test.YtfabdnpeohpgnaaGreatDoorQFGrow
import Derived.Lib.ItoaNum
import Derived.Lib.ItoaMem
import Derived.Lib.AtoiAll
import Derived.Laws.BitsAllLaws
import Derived.Test.YtfabdnpeohpgnaaGreatDoorChecked
import Derived.Sort.Grow
namespace Go.Proofs.YtfabdnpeohpgnaaGreatDoor
set_option linter.all false
open Go.Shelf
def Tryz.lays169_ren : Go.Shelf.Ren := ⟨fun | 169 => 39 | n => n, fun | 70 => 73 | 9 => 9 | 0 => 0 | 72 => 75 | 37 => 33 | 127 => 96 | 3 => 3 | 5 => 5 | n => n, fun | n => n⟩
theorem Tryz.lays169 : Go.Proofs.Lays.n169 Tryz.prog Tryz.lays169_ren := {
  mixed := by kernel_rfl
  f169 := Tryz.func39.trans (congrArg some (by kernel_rfl))
  t0 := Tryz.underlying0
  a0 := Tryz.isAgg0
  z0 := Tryz.sizeOf0
  v0 := Tryz.zeroValue0
  t3 := Tryz.underlying3
  a3 := Tryz.isAgg3
  z3 := Tryz.sizeOf3
  v3 := Tryz.zeroValue3
  t9 := Tryz.underlying9
  a9 := Tryz.isAgg9
  z9 := Tryz.sizeOf9
  v9 := Tryz.zeroValue9
  t37 := Tryz.underlying33
  a37 := Tryz.isAgg33
  z37 := Tryz.sizeOf33
  v37 := Tryz.zeroValue33
  t70 := Tryz.underlying73
  a70 := Tryz.isAgg73
  z70 := Tryz.sizeOf73
  v70 := Tryz.zeroValue73
  t72 := Tryz.underlying75
  a72 := Tryz.isAgg75
  z72 := Tryz.sizeOf75
  v72 := Tryz.zeroValue75
  t127 := Tryz.underlying96
  a127 := Tryz.isAgg96
  z127 := Tryz.sizeOf96
  v127 := Tryz.zeroValue96 }
theorem Tryz.Builder_Extra_169 : Builder.Extra Tryz.prog Tryz.lays169_ren := {
  sizeBuilder := by kernel_rfl
  liesBuilder := by kernel_rfl
  t5 := Tryz.underlying5
  a5 := Tryz.isAgg5
  z5 := Tryz.sizeOf5
  v5 := Tryz.zeroValue5
  infoByte := by kernel_rfl
  cellsByte := by kernel_rfl
  sizeByte := by kernel_rfl
  neB5 := by decide }
open Go.RowKit in
theorem Tryz.Builder_String_any (B b : Nat) (l : List UInt8) (w : World) (h : Lib.IsBuilder 75 5 B b (Lib.byteCells l) w) (hBw : B ≤ w.heap.size) :
    Calls Tryz.prog 39 #[.pointer (some ⟨b, 0, none⟩)] w fun e w' => e = .returned (.string ⟨l.toArray⟩) ∧ Below B w w' := Any.Builder_String_any Tryz.lays169 Tryz.Builder_Extra_169 B b l w h hBw
def Tryz.lays119_ren : Go.Shelf.Ren := ⟨fun | 119 => 94 | n => n, fun | 21 => 21 | 4 => 4 | n => n, fun | n => n⟩
theorem Tryz.lays119 : Go.Proofs.Lays.n119 Tryz.prog Tryz.lays119_ren := {
  mixed := by kernel_rfl
  f119 := Tryz.func94.trans (congrArg some (by kernel_rfl))
  t4 := Tryz.underlying4
  a4 := Tryz.isAgg4
  z4 := Tryz.sizeOf4
  v4 := Tryz.zeroValue4
  t21 := Tryz.underlying21
  a21 := Tryz.isAgg21
  z21 := Tryz.sizeOf21
  v21 := Tryz.zeroValue21 }
theorem Tryz.utf8_ValidRune (r : Int) (w : World) :
    Calls Tryz.prog 94 #[.int .i32 r] w fun e w' => e = .returned (.bool (Lib.validRune r)) ∧ w' = w := Any.utf8_ValidRune Tryz.lays119 r w
def Tryz.lays137_ren : Go.Shelf.Ren := ⟨fun | 137 => 43 | 217 => 57 | 266 => 68 | n => n, fun | 9 => 9 | 5 => 5 | 3 => 3 | n => n, fun | n => n⟩
theorem Tryz.lays137 : Go.Proofs.Lays.n137 Tryz.prog Tryz.lays137_ren := {
  mixed := by kernel_rfl
  f137 := Tryz.func43.trans (congrArg some (by kernel_rfl))
  f217 := Tryz.func57.trans (congrArg some (by kernel_rfl))
  f266 := Tryz.func68.trans (congrArg some (by kernel_rfl))
  t3 := Tryz.underlying3
  a3 := Tryz.isAgg3
  z3 := Tryz.sizeOf3
  v3 := Tryz.zeroValue3
  t5 := Tryz.underlying5
  a5 := Tryz.isAgg5
  z5 := Tryz.sizeOf5
  v5 := Tryz.zeroValue5
  t9 := Tryz.underlying9
  a9 := Tryz.isAgg9
  z9 := Tryz.sizeOf9
  v9 := Tryz.zeroValue9 }
open Go.RowKit in
theorem Tryz.strings_IndexByte (s : ByteArray) (c : Int) (w : World) :
    Calls Tryz.prog 43 #[.string s, .int .u8 c] w fun e w' => e = .returned (.int .i64 (Lib.indexByte s.data.toList c.toNat.toUInt8)) ∧ w' = w := Any.strings_IndexByte Tryz.lays137 s c w
def Tryz.lays145_ren : Go.Shelf.Ren := ⟨fun | 145 => 26 | 220 => 44 | 219 => 58 | 217 => 57 | 225 => 69 | 224 => 70 | 267 => 71 | 266 => 68 | 314 => 85 | n => n, fun | 9 => 9 | 4 => 4 | 59 => 64 | 3 => 3 | 5 => 5 | 46 => 81 | 146 => 120 | 51 => 119 | n => n, fun | 1 => 0 | n => n⟩
theorem Tryz.lays145 : Go.Proofs.Lays.n145 Tryz.prog Tryz.lays145_ren := {
  mixed := by kernel_rfl
  f145 := Tryz.func26.trans (congrArg some (by kernel_rfl))
  f217 := Tryz.func57.trans (congrArg some (by kernel_rfl))
  f219 := Tryz.func58.trans (congrArg some (by kernel_rfl))
  f220 := Tryz.func44.trans (congrArg some (by kernel_rfl))
  f224 := Tryz.func70.trans (congrArg some (by kernel_rfl))
  f225 := Tryz.func69.trans (congrArg some (by kernel_rfl))
  f266 := Tryz.func68.trans (congrArg some (by kernel_rfl))
  f267 := Tryz.func71.trans (congrArg some (by kernel_rfl))
  f314 := Tryz.func85.trans (congrArg some (by kernel_rfl))
  t3 := Tryz.underlying3
  a3 := Tryz.isAgg3
  z3 := Tryz.sizeOf3
  v3 := Tryz.zeroValue3
  t4 := Tryz.underlying4
  a4 := Tryz.isAgg4
  z4 := Tryz.sizeOf4
  v4 := Tryz.zeroValue4
  t5 := Tryz.underlying5
  a5 := Tryz.isAgg5
  z5 := Tryz.sizeOf5
  v5 := Tryz.zeroValue5
  t9 := Tryz.underlying9
  a9 := Tryz.isAgg9
  z9 := Tryz.sizeOf9
  v9 := Tryz.zeroValue9
  t46 := Tryz.underlying81
  a46 := Tryz.isAgg81
  z46 := Tryz.sizeOf81
  v46 := Tryz.zeroValue81
  t51 := Tryz.underlying119
  a51 := Tryz.isAgg119
  z51 := Tryz.sizeOf119
  v51 := Tryz.zeroValue119
  t59 := Tryz.underlying64
  a59 := Tryz.isAgg64
  z59 := Tryz.sizeOf64
  v59 := Tryz.zeroValue64
  t146 := Tryz.underlying120
  a146 := Tryz.isAgg120
  z146 := Tryz.sizeOf120
  v146 := Tryz.zeroValue120
  g1 := by kernel_rfl }
open Go.RowKit Go.Lib in
theorem Tryz.strings_Cut (s sep : ByteArray) (m : Int) (w : World) (hs : s.size < 4294967281) (hm : w.cell? ⟨0, 0, none⟩ = some (.int .i64 m)) :
    Calls Tryz.prog 26 #[.string s, .string sep] w fun e w' => e = .returned (.tuple #[.string ⟨(Lib.cut s.data.toList sep.data.toList).1.toArray⟩, .string ⟨(Lib.cut s.data.toList sep.data.toList).2.1.toArray⟩, .bool (Lib.cut s.data.toList sep.data.toList).2.2]) ∧ ∃ n, w' = w.drewN n := Any.strings_Cut Tryz.lays145 s sep m w hs hm
def Tryz.lays103_ren : Go.Shelf.Ren := ⟨fun | 103 => 45 | 210 => 59 | 206 => 72 | n => n, fun | 9 => 9 | 4 => 4 | 24 => 87 | 3 => 3 | n => n, fun | n => n⟩
theorem Tryz.lays103 : Go.Proofs.Lays.n103 Tryz.prog Tryz.lays103_ren := {
  mixed := by kernel_rfl
  f103 := Tryz.func45.trans (congrArg some (by kernel_rfl))
  f206 := Tryz.func72.trans (congrArg some (by kernel_rfl))
  f210 := Tryz.func59.trans (congrArg some (by kernel_rfl))
  t3 := Tryz.underlying3
  a3 := Tryz.isAgg3
  z3 := Tryz.sizeOf3
  v3 := Tryz.zeroValue3
  t4 := Tryz.underlying4
  a4 := Tryz.isAgg4
  z4 := Tryz.sizeOf4
  v4 := Tryz.zeroValue4
  t9 := Tryz.underlying9
  a9 := Tryz.isAgg9
  z9 := Tryz.sizeOf9
  v9 := Tryz.zeroValue9
  t24 := Tryz.underlying87
  a24 := Tryz.isAgg87
  z24 := Tryz.sizeOf87
  v24 := Tryz.zeroValue87 }
open Go.RowKit in
theorem Tryz.strings_CutPrefix (s p : ByteArray) (w : World) :
    Calls Tryz.prog 45 #[.string s, .string p] w fun e w' => e = .returned (.tuple #[.string ⟨(Lib.trimPrefix s.data.toList p.data.toList).toArray⟩, .bool (Lib.hasPrefix s.data.toList p.data.toList)]) ∧ w' = w := Any.strings_CutPrefix Tryz.lays103 s p w
def Tryz.lays146_ren : Go.Shelf.Ren := ⟨fun | 146 => 47 | 221 => 62 | 268 => 75 | 138 => 76 | 143 => 53 | 195 => 91 | 197 => 92 | 218 => 93 | 219 => 58 | 260 => 103 | 217 => 57 | 225 => 69 | 224 => 70 | 267 => 71 | 266 => 68 | 314 => 85 | n => n, fun | 9 => 9 | 31 => 24 | 3 => 3 | 4 => 4 | 0 => 0 | 105 => 128 | 21 => 21 | 5 => 5 | 46 => 81 | 119 => 146 | 139 => 149 | 138 => 148 | 146 => 120 | 51 => 119 | n => n, fun | 1 => 0 | 3 => 4 | 4 => 5 | n => n⟩
theorem Tryz.lays146 : Go.Proofs.Lays.n146 Tryz.prog Tryz.lays146_ren := {
  mixed := by kernel_rfl
  f138 := Tryz.func76.trans (congrArg some (by kernel_rfl))
  f143 := Tryz.func53.trans (congrArg some (by kernel_rfl))
  f146 := Tryz.func47.trans (congrArg some (by kernel_rfl))
  f195 := Tryz.func91.trans (congrArg some (by kernel_rfl))
  f197 := Tryz.func92.trans (congrArg some (by kernel_rfl))
  f217 := Tryz.func57.trans (congrArg some (by kernel_rfl))
  f218 := Tryz.func93.trans (congrArg some (by kernel_rfl))
  f219 := Tryz.func58.trans (congrArg some (by kernel_rfl))
  f221 := Tryz.func62.trans (congrArg some (by kernel_rfl))
  f224 := Tryz.func70.trans (congrArg some (by kernel_rfl))
  f225 := Tryz.func69.trans (congrArg some (by kernel_rfl))
  f260 := Tryz.func103.trans (congrArg some (by kernel_rfl))
  f266 := Tryz.func68.trans (congrArg some (by kernel_rfl))
  f267 := Tryz.func71.trans (congrArg some (by kernel_rfl))
  f268 := Tryz.func75.trans (congrArg some (by kernel_rfl))
  f314 := Tryz.func85.trans (congrArg some (by kernel_rfl))
  t0 := Tryz.underlying0
  a0 := Tryz.isAgg0
  z0 := Tryz.sizeOf0
  v0 := Tryz.zeroValue0
  t3 := Tryz.underlying3
  a3 := Tryz.isAgg3
  z3 := Tryz.sizeOf3
  v3 := Tryz.zeroValue3
  t4 := Tryz.underlying4
  a4 := Tryz.isAgg4
  z4 := Tryz.sizeOf4
  v4 := Tryz.zeroValue4
  t5 := Tryz.underlying5
  a5 := Tryz.isAgg5
  z5 := Tryz.sizeOf5
  v5 := Tryz.zeroValue5
  t9 := Tryz.underlying9
  a9 := Tryz.isAgg9
  z9 := Tryz.sizeOf9
  v9 := Tryz.zeroValue9
  t21 := Tryz.underlying21
  a21 := Tryz.isAgg21
  z21 := Tryz.sizeOf21
  v21 := Tryz.zeroValue21
  t31 := Tryz.underlying24
  a31 := Tryz.isAgg24
  z31 := Tryz.sizeOf24
  v31 := Tryz.zeroValue24
  t46 := Tryz.underlying81
  a46 := Tryz.isAgg81
  z46 := Tryz.sizeOf81
  v46 := Tryz.zeroValue81
  t51 := Tryz.underlying119
  a51 := Tryz.isAgg119
  z51 := Tryz.sizeOf119
  v51 := Tryz.zeroValue119
  t105 := Tryz.underlying128
  a105 := Tryz.isAgg128
  z105 := Tryz.sizeOf128
  v105 := Tryz.zeroValue128
  t119 := Tryz.underlying146
  a119 := Tryz.isAgg146
  z119 := Tryz.sizeOf146
  t138 := Tryz.underlying148
  a138 := Tryz.isAgg148
  z138 := Tryz.sizeOf148
  v138 := Tryz.zeroValue148
  t139 := Tryz.underlying149
  a139 := Tryz.isAgg149
  z139 := Tryz.sizeOf149
  v139 := Tryz.zeroValue149
  t146 := Tryz.underlying120
  a146 := Tryz.isAgg120
  z146 := Tryz.sizeOf120
  v146 := Tryz.zeroValue120
  g1 := by kernel_rfl
  g3 := by kernel_rfl
  g4 := by kernel_rfl }
open Go.RowKit Go.Lib in
theorem Tryz.strings_Split (s sep : ByteArray) (m : Int) (w : World) (hs : s.size < 4294967281) (hm : w.cell? ⟨0, 0, none⟩ = some (.int .i64 m)) (h1 : 1 ≤ sep.size) :
    Calls Tryz.prog 47 #[.string s, .string sep] w fun e w' =>
      e = .returned (.slice (some ⟨w.heap.size, 0, none⟩) (Lib.countB s sep + 1) (Lib.countB s sep + 1)) ∧ w' = w.alloc (.cells ((Lib.splitB sep 0 (Lib.countB s sep) s).map Value.string).toArray 9) := Any.strings_Split Tryz.lays146 (by kernel_rfl) s sep m w hs hm h1
def Tryz.lays144_ren : Go.Shelf.Ren := ⟨fun | 144 => 35 | 143 => 53 | 219 => 58 | 217 => 57 | 225 => 69 | 224 => 70 | 267 => 71 | 266 => 68 | 314 => 85 | n => n, fun | 9 => 9 | 4 => 4 | 3 => 3 | 5 => 5 | 46 => 81 | 146 => 120 | 51 => 119 | n => n, fun | 1 => 0 | n => n⟩
theorem Tryz.lays144 : Go.Proofs.Lays.n144 Tryz.prog Tryz.lays144_ren := {
  mixed := by kernel_rfl
  f143 := Tryz.func53.trans (congrArg some (by kernel_rfl))
  f144 := Tryz.func35.trans (congrArg some (by kernel_rfl))
  f217 := Tryz.func57.trans (congrArg some (by kernel_rfl))
  f219 := Tryz.func58.trans (congrArg some (by kernel_rfl))
  f224 := Tryz.func70.trans (congrArg some (by kernel_rfl))
  f225 := Tryz.func69.trans (congrArg some (by kernel_rfl))
  f266 := Tryz.func68.trans (congrArg some (by kernel_rfl))
  f267 := Tryz.func71.trans (congrArg some (by kernel_rfl))
  f314 := Tryz.func85.trans (congrArg some (by kernel_rfl))
  t3 := Tryz.underlying3
  a3 := Tryz.isAgg3
  z3 := Tryz.sizeOf3
  v3 := Tryz.zeroValue3
  t4 := Tryz.underlying4
  a4 := Tryz.isAgg4
  z4 := Tryz.sizeOf4
  v4 := Tryz.zeroValue4
  t5 := Tryz.underlying5
  a5 := Tryz.isAgg5
  z5 := Tryz.sizeOf5
  v5 := Tryz.zeroValue5
  t9 := Tryz.underlying9
  a9 := Tryz.isAgg9
  z9 := Tryz.sizeOf9
  v9 := Tryz.zeroValue9
  t46 := Tryz.underlying81
  a46 := Tryz.isAgg81
  z46 := Tryz.sizeOf81
  v46 := Tryz.zeroValue81
  t51 := Tryz.underlying119
  a51 := Tryz.isAgg119
  z51 := Tryz.sizeOf119
  v51 := Tryz.zeroValue119
  t146 := Tryz.underlying120
  a146 := Tryz.isAgg120
  z146 := Tryz.sizeOf120
  v146 := Tryz.zeroValue120
  g1 := by kernel_rfl }
open Go.RowKit Go.Lib in
theorem Tryz.strings_Contains (s sub : ByteArray) (m : Int) (w : World) (hs : s.size < 4294967281) (hm : w.cell? ⟨0, 0, none⟩ = some (.int .i64 m)) :
    Calls Tryz.prog 35 #[.string s, .string sub] w fun e w' => e = .returned (.bool (Lib.contains s.data.toList sub.data.toList)) ∧ w' = w := Any.strings_Contains Tryz.lays144 s sub m w hs hm
def Tryz.lays152_ren : Go.Shelf.Ren := ⟨fun | 152 => 77 | 137 => 43 | 119 => 94 | 224 => 70 | 225 => 69 | 217 => 57 | 266 => 68 | n => n, fun | 9 => 9 | 21 => 21 | 3 => 3 | 4 => 4 | 5 => 5 | 0 => 0 | 46 => 81 | n => n, fun | n => n⟩
theorem Tryz.lays152 : Go.Proofs.Lays.n152 Tryz.prog Tryz.lays152_ren := {
  mixed := by kernel_rfl
  f119 := Tryz.func94.trans (congrArg some (by kernel_rfl))
  f137 := Tryz.func43.trans (congrArg some (by kernel_rfl))
  f152 := Tryz.func77.trans (congrArg some (by kernel_rfl))
  f217 := Tryz.func57.trans (congrArg some (by kernel_rfl))
  f224 := Tryz.func70.trans (congrArg some (by kernel_rfl))
  f225 := Tryz.func69.trans (congrArg some (by kernel_rfl))
  f266 := Tryz.func68.trans (congrArg some (by kernel_rfl))
  t0 := Tryz.underlying0
  a0 := Tryz.isAgg0
  z0 := Tryz.sizeOf0
  v0 := Tryz.zeroValue0
  t3 := Tryz.underlying3
  a3 := Tryz.isAgg3
  z3 := Tryz.sizeOf3
  v3 := Tryz.zeroValue3
  t4 := Tryz.underlying4
  a4 := Tryz.isAgg4
  z4 := Tryz.sizeOf4
  v4 := Tryz.zeroValue4
  t5 := Tryz.underlying5
  a5 := Tryz.isAgg5
  z5 := Tryz.sizeOf5
  v5 := Tryz.zeroValue5
  t9 := Tryz.underlying9
  a9 := Tryz.isAgg9
  z9 := Tryz.sizeOf9
  v9 := Tryz.zeroValue9
  t21 := Tryz.underlying21
  a21 := Tryz.isAgg21
  z21 := Tryz.sizeOf21
  v21 := Tryz.zeroValue21
  t46 := Tryz.underlying81
  a46 := Tryz.isAgg81
  z46 := Tryz.sizeOf81
  v46 := Tryz.zeroValue81 }
open Go.RowKit Go.Lib in
theorem Tryz.strings_IndexRune_ascii (s : ByteArray) (r : Int) (w : World) (h0 : 0 ≤ r) (h1 : r < 128) :
    Calls Tryz.prog 77 #[.string s, .int .i32 r] w fun e w' => e = .returned (.int .i64 (Lib.indexByte s.data.toList r.toNat.toUInt8)) ∧ w' = w := Any.strings_IndexRune_ascii Tryz.lays152 s r w h0 h1
def Tryz.lays226_ren : Go.Shelf.Ren := ⟨fun | 226 => 78 | n => n, fun | 3 => 3 | 4 => 4 | n => n, fun | n => n⟩
theorem Tryz.lays226 : Go.Proofs.Lays.n226 Tryz.prog Tryz.lays226_ren := {
  mixed := by kernel_rfl
  f226 := Tryz.func78.trans (congrArg some (by kernel_rfl))
  t3 := Tryz.underlying3
  a3 := Tryz.isAgg3
  z3 := Tryz.sizeOf3
  v3 := Tryz.zeroValue3
  t4 := Tryz.underlying4
  a4 := Tryz.isAgg4
  z4 := Tryz.sizeOf4
  v4 := Tryz.zeroValue4 }
open Go.RowKit Go.Lib in
theorem Tryz.strings_shouldUseASCIISet (n : Int) (w : World) :
    Calls Tryz.prog 78 #[.int .i64 n] w fun e w' => e = .returned (.bool (decide (8 < n))) ∧ w' = w := Any.strings_shouldUseASCIISet Tryz.lays226 n w
def Tryz.lays153_ren : Go.Shelf.Ren := ⟨fun | 153 => 63 | 152 => 77 | 226 => 78 | 227 => 79 | 228 => 80 | 137 => 43 | 119 => 94 | 224 => 70 | 225 => 69 | 217 => 57 | 266 => 68 | n => n, fun | 9 => 9 | 3 => 3 | 4 => 4 | 5 => 5 | 21 => 21 | 117 => 110 | 116 => 109 | 0 => 0 | 46 => 81 | 124 => 131 | n => n, fun | n => n⟩
theorem Tryz.lays153 : Go.Proofs.Lays.n153 Tryz.prog Tryz.lays153_ren := {
  mixed := by kernel_rfl
  f119 := Tryz.func94.trans (congrArg some (by kernel_rfl))
  f137 := Tryz.func43.trans (congrArg some (by kernel_rfl))
  f152 := Tryz.func77.trans (congrArg some (by kernel_rfl))
  f153 := Tryz.func63.trans (congrArg some (by kernel_rfl))
  f217 := Tryz.func57.trans (congrArg some (by kernel_rfl))
  f224 := Tryz.func70.trans (congrArg some (by kernel_rfl))
  f225 := Tryz.func69.trans (congrArg some (by kernel_rfl))
  f226 := Tryz.func78.trans (congrArg some (by kernel_rfl))
  f227 := Tryz.func79.trans (congrArg some (by kernel_rfl))
  f228 := Tryz.func80.trans (congrArg some (by kernel_rfl))
  f266 := Tryz.func68.trans (congrArg some (by kernel_rfl))
  t0 := Tryz.underlying0
  a0 := Tryz.isAgg0
  z0 := Tryz.sizeOf0
  v0 := Tryz.zeroValue0
  t3 := Tryz.underlying3
  a3 := Tryz.isAgg3
  z3 := Tryz.sizeOf3
  v3 := Tryz.zeroValue3
  t4 := Tryz.underlying4
  a4 := Tryz.isAgg4
  z4 := Tryz.sizeOf4
  v4 := Tryz.zeroValue4
  t5 := Tryz.underlying5
  a5 := Tryz.isAgg5
  z5 := Tryz.sizeOf5
  v5 := Tryz.zeroValue5
  t9 := Tryz.underlying9
  a9 := Tryz.isAgg9
  z9 := Tryz.sizeOf9
  v9 := Tryz.zeroValue9
  t21 := Tryz.underlying21
  a21 := Tryz.isAgg21
  z21 := Tryz.sizeOf21
  v21 := Tryz.zeroValue21
  t46 := Tryz.underlying81
  a46 := Tryz.isAgg81
  z46 := Tryz.sizeOf81
  v46 := Tryz.zeroValue81
  t116 := Tryz.underlying109
  a116 := Tryz.isAgg109
  z116 := Tryz.sizeOf109
  t117 := Tryz.underlying110
  a117 := Tryz.isAgg110
  z117 := Tryz.sizeOf110
  v117 := Tryz.zeroValue110
  t124 := Tryz.underlying131
  a124 := Tryz.isAgg131
  z124 := Tryz.sizeOf131
  v124 := Tryz.zeroValue131 }
open Go.RowKit Go.Lib in
theorem Tryz.strings_IndexAny_long (hv116 : ∀ w, (zeroValue 109).run Tryz.prog w = .ok (.agg (Array.replicate 256 (.bool false))) w) (s chars : ByteArray) (w : World) (h2 : 2 ≤ chars.size) (h8 : 8 < s.size) (hs : s.size < 4294967281) (hcs : chars.size < 4294967281) (hascii : ∀ (j : Nat) b, chars.data.toList[j]? = some b → b.toNat < 128) :
    Calls Tryz.prog 63 #[.string s, .string chars] w fun e w' => e = .returned (.int .i64 (Lib.indexAny s.data.toList chars.data.toList)) ∧ w' = ((w.alloc (.cells (Lib.setCells chars.data.toList) 109)).alloc (.cells (Lib.setCells chars.data.toList) 109)) := Any.strings_IndexAny_long Tryz.lays153 hv116 (by kernel_rfl) s chars w h2 h8 hs hcs hascii
def Tryz.laysM171_ren : Go.Shelf.Ren := ⟨fun | 171 => 36 | 243 => 54 | 246 => 65 | 283 => 81 | 284 => 82 | 285 => 83 | 286 => 84 | 129 => 96 | 317 => 95 | 318 => 97 | 319 => 98 | 320 => 99 | 337 => 104 | 338 => 105 | n => n, fun | 3 => 3 | 9 => 9 | 2 => 2 | 4 => 4 | 171 => 113 | 0 => 0 | 53 => 114 | 37 => 33 | 5 => 5 | 173 => 117 | 212 => 133 | 51 => 119 | 20 => 20 | 213 => 134 | 46 => 81 | 232 => 150 | 233 => 151 | n => n, fun | 17 => 1 | 18 => 6 | 19 => 7 | n => n⟩
theorem Tryz.laysM171 : Go.Proofs.LaysM.n171 Tryz.prog Tryz.laysM171_ren := {
  mixed := by kernel_rfl
  f129 := Tryz.func96.trans (congrArg some (by kernel_rfl))
  f171 := Tryz.func36.trans (congrArg some (by kernel_rfl))
  f243 := Tryz.func54.trans (congrArg some (by kernel_rfl))
  f246 := Tryz.func65.trans (congrArg some (by kernel_rfl))
  f283 := Tryz.func81.trans (congrArg some (by kernel_rfl))
  f284 := Tryz.func82.trans (congrArg some (by kernel_rfl))
  f285 := Tryz.func83.trans (congrArg some (by kernel_rfl))
  f286 := Tryz.func84.trans (congrArg some (by kernel_rfl))
  f317 := Tryz.func95.trans (congrArg some (by kernel_rfl))
  f318 := Tryz.func97.trans (congrArg some (by kernel_rfl))
  f319 := Tryz.func98.trans (congrArg some (by kernel_rfl))
  f320 := Tryz.func99.trans (congrArg some (by kernel_rfl))
  f337 := Tryz.func104.trans (congrArg some (by kernel_rfl))
  f338 := Tryz.func105.trans (congrArg some (by kernel_rfl))
  t0 := Tryz.underlying0
  a0 := Tryz.isAgg0
  z0 := Tryz.sizeOf0
  v0 := Tryz.zeroValue0
  t2 := Tryz.underlying2
  a2 := Tryz.isAgg2
  z2 := Tryz.sizeOf2
  v2 := Tryz.zeroValue2
  t3 := Tryz.underlying3
  a3 := Tryz.isAgg3
  z3 := Tryz.sizeOf3
  v3 := Tryz.zeroValue3
  t4 := Tryz.underlying4
  a4 := Tryz.isAgg4
  z4 := Tryz.sizeOf4
  v4 := Tryz.zeroValue4
  t5 := Tryz.underlying5
  a5 := Tryz.isAgg5
  z5 := Tryz.sizeOf5
  v5 := Tryz.zeroValue5
  t9 := Tryz.underlying9
  a9 := Tryz.isAgg9
  z9 := Tryz.sizeOf9
  v9 := Tryz.zeroValue9
  t20 := Tryz.underlying20
  a20 := Tryz.isAgg20
  z20 := Tryz.sizeOf20
  v20 := Tryz.zeroValue20
  t37 := Tryz.underlying33
  a37 := Tryz.isAgg33
  z37 := Tryz.sizeOf33
  v37 := Tryz.zeroValue33
  t46 := Tryz.underlying81
  a46 := Tryz.isAgg81
  z46 := Tryz.sizeOf81
  v46 := Tryz.zeroValue81
  t51 := Tryz.underlying119
  a51 := Tryz.isAgg119
  z51 := Tryz.sizeOf119
  v51 := Tryz.zeroValue119
  t53 := Tryz.underlying114
  a53 := Tryz.isAgg114
  z53 := Tryz.sizeOf114
  v53 := Tryz.zeroValue114
  t171 := Tryz.underlying113
  a171 := Tryz.isAgg113
  z171 := Tryz.sizeOf113
  v171 := Tryz.zeroValue113
  t173 := Tryz.underlying117
  a173 := Tryz.isAgg117
  z173 := Tryz.sizeOf117
  v173 := Tryz.zeroValue117
  t212 := Tryz.underlying133
  a212 := Tryz.isAgg133
  z212 := Tryz.sizeOf133
  v212 := Tryz.zeroValue133
  t213 := Tryz.underlying134
  a213 := Tryz.isAgg134
  z213 := Tryz.sizeOf134
  t232 := Tryz.underlying150
  a232 := Tryz.isAgg150
  z232 := Tryz.sizeOf150
  v232 := Tryz.zeroValue150
  t233 := Tryz.underlying151
  a233 := Tryz.isAgg151
  z233 := Tryz.sizeOf151
  v233 := Tryz.zeroValue151
  g17 := by kernel_rfl
  g18 := by kernel_rfl
  g19 := by kernel_rfl
  i0 := by kernel_rfl
  i2 := by kernel_rfl
  i3 := by kernel_rfl
  i4 := by kernel_rfl
  i5 := by kernel_rfl
  i9 := by kernel_rfl
  i20 := by kernel_rfl
  i37 := by kernel_rfl
  i46 := by kernel_rfl
  i51 := by kernel_rfl
  i53 := by kernel_rfl
  i171 := by kernel_rfl
  i173 := by kernel_rfl
  i212 := by kernel_rfl
  i232 := by kernel_rfl
  i233 := by kernel_rfl
  m17 := by kernel_rfl
  m18 := by kernel_rfl
  m19 := by kernel_rfl }
open Go.RowKit Go.Sort Go.Lib in
theorem Tryz.strconv_Itoa (n : Int) (h0 : -9223372036854775808 ≤ n) (h1 : n ≤ 9223372036854775807) (w : World) (htab : Lib.TabIs Tryz.prog w "internal/strconv.uint64pow10" .u64 Lib.pow10Tab) :
    Calls Tryz.prog 36 #[.int .i64 n] w fun e w' => e = .returned (.string ⟨(Lib.itoa n).toArray⟩) ∧ ∃ k os, w' = grow (w.drewN k) os := Any.strconv_Itoa Tryz.laysM171 n h0 h1 w htab
def Tryz.laysC172_ren : Go.Shelf.Ren := ⟨fun | 172 => 60 | 244 => 73 | 245 => 74 | 247 => 86 | 279 => 87 | 280 => 88 | 281 => 89 | 282 => 90 | 287 => 100 | 316 => 101 | 171 => 36 | 205 => 102 | 321 => 106 | 322 => 107 | 243 => 54 | 246 => 65 | 283 => 81 | 284 => 82 | 285 => 83 | 286 => 84 | 129 => 96 | 317 => 95 | 318 => 97 | 319 => 98 | 320 => 99 | 337 => 104 | 338 => 105 | n => n, fun | 9 => 9 | 3 => 3 | 75 => 77 | 76 => 78 | 4 => 4 | 5 => 5 | 167 => 122 | 37 => 33 | 0 => 0 | 85 => 123 | 2 => 2 | 168 => 125 | 53 => 114 | 175 => 136 | 46 => 81 | 210 => 139 | 127 => 96 | 145 => 145 | 143 => 143 | 21 => 21 | 171 => 113 | 173 => 117 | 212 => 133 | 51 => 119 | 20 => 20 | 213 => 134 | 232 => 150 | 233 => 151 | 80 => 63 | n => n, fun | 15 => 2 | 16 => 3 | 17 => 1 | 18 => 6 | 19 => 7 | n => n⟩
theorem Tryz.laysC172 : Go.Proofs.LaysC.n172 Tryz.prog Tryz.laysC172_ren := {
  mixed := by kernel_rfl
  f129 := Tryz.func96.trans (congrArg some (by kernel_rfl))
  f171 := Tryz.func36.trans (congrArg some (by kernel_rfl))
  f172 := Tryz.func60.trans (congrArg some (by kernel_rfl))
  f205 := Tryz.func102.trans (congrArg some (by kernel_rfl))
  f243 := Tryz.func54.trans (congrArg some (by kernel_rfl))
  f244 := Tryz.func73.trans (congrArg some (by kernel_rfl))
  f245 := Tryz.func74.trans (congrArg some (by kernel_rfl))
  f246 := Tryz.func65.trans (congrArg some (by kernel_rfl))
  f247 := Tryz.func86.trans (congrArg some (by kernel_rfl))
  f279 := Tryz.func87.trans (congrArg some (by kernel_rfl))
  f280 := Tryz.func88.trans (congrArg some (by kernel_rfl))
  f281 := Tryz.func89.trans (congrArg some (by kernel_rfl))
  f282 := Tryz.func90.trans (congrArg some (by kernel_rfl))
  f283 := Tryz.func81.trans (congrArg some (by kernel_rfl))
  f284 := Tryz.func82.trans (congrArg some (by kernel_rfl))
  f285 := Tryz.func83.trans (congrArg some (by kernel_rfl))
  f286 := Tryz.func84.trans (congrArg some (by kernel_rfl))
  f287 := Tryz.func100.trans (congrArg some (by kernel_rfl))
  f316 := Tryz.func101.trans (congrArg some (by kernel_rfl))
  f317 := Tryz.func95.trans (congrArg some (by kernel_rfl))
  f318 := Tryz.func97.trans (congrArg some (by kernel_rfl))
  f319 := Tryz.func98.trans (congrArg some (by kernel_rfl))
  f320 := Tryz.func99.trans (congrArg some (by kernel_rfl))
  f321 := Tryz.func106.trans (congrArg some (by kernel_rfl))
  f322 := Tryz.func107.trans (congrArg some (by kernel_rfl))
  f337 := Tryz.func104.trans (congrArg some (by kernel_rfl))
  f338 := Tryz.func105.trans (congrArg some (by kernel_rfl))
  t0 := Tryz.underlying0
  a0 := Tryz.isAgg0
  z0 := Tryz.sizeOf0
  v0 := Tryz.zeroValue0
  t2 := Tryz.underlying2
  a2 := Tryz.isAgg2
  z2 := Tryz.sizeOf2
  v2 := Tryz.zeroValue2
  t3 := Tryz.underlying3
  a3 := Tryz.isAgg3
  z3 := Tryz.sizeOf3
  v3 := Tryz.zeroValue3
  t4 := Tryz.underlying4
  a4 := Tryz.isAgg4
  z4 := Tryz.sizeOf4
  v4 := Tryz.zeroValue4
  t5 := Tryz.underlying5
  a5 := Tryz.isAgg5
  z5 := Tryz.sizeOf5
  v5 := Tryz.zeroValue5
  t9 := Tryz.underlying9
  a9 := Tryz.isAgg9
  z9 := Tryz.sizeOf9
  v9 := Tryz.zeroValue9
  t20 := Tryz.underlying20
  a20 := Tryz.isAgg20
  z20 := Tryz.sizeOf20
  v20 := Tryz.zeroValue20
  t21 := Tryz.underlying21
  a21 := Tryz.isAgg21
  z21 := Tryz.sizeOf21
  v21 := Tryz.zeroValue21
  t37 := Tryz.underlying33
  a37 := Tryz.isAgg33
  z37 := Tryz.sizeOf33
  v37 := Tryz.zeroValue33
  t46 := Tryz.underlying81
  a46 := Tryz.isAgg81
  z46 := Tryz.sizeOf81
  v46 := Tryz.zeroValue81
  t51 := Tryz.underlying119
  a51 := Tryz.isAgg119
  z51 := Tryz.sizeOf119
  v51 := Tryz.zeroValue119
  t53 := Tryz.underlying114
  a53 := Tryz.isAgg114
  z53 := Tryz.sizeOf114
  v53 := Tryz.zeroValue114
  t75 := Tryz.underlying77
  a75 := Tryz.isAgg77
  z75 := Tryz.sizeOf77
  v75 := Tryz.zeroValue77
  t76 := Tryz.underlying78
  a76 := Tryz.isAgg78
  z76 := Tryz.sizeOf78
  v76 := Tryz.zeroValue78
  t85 := Tryz.underlying123
  a85 := Tryz.isAgg123
  z85 := Tryz.sizeOf123
  v85 := Tryz.zeroValue123
  t127 := Tryz.underlying96
  a127 := Tryz.isAgg96
  z127 := Tryz.sizeOf96
  v127 := Tryz.zeroValue96
  t143 := Tryz.underlying143
  a143 := Tryz.isAgg143
  z143 := Tryz.sizeOf143
  v143 := Tryz.zeroValue143
  t145 := Tryz.underlying145
  a145 := Tryz.isAgg145
  z145 := Tryz.sizeOf145
  v145 := Tryz.zeroValue145
  t167 := Tryz.underlying122
  a167 := Tryz.isAgg122
  z167 := Tryz.sizeOf122
  v167 := Tryz.zeroValue122
  t168 := Tryz.underlying125
  a168 := Tryz.isAgg125
  z168 := Tryz.sizeOf125
  v168 := Tryz.zeroValue125
  t171 := Tryz.underlying113
  a171 := Tryz.isAgg113
  z171 := Tryz.sizeOf113
  v171 := Tryz.zeroValue113
  t173 := Tryz.underlying117
  a173 := Tryz.isAgg117
  z173 := Tryz.sizeOf117
  v173 := Tryz.zeroValue117
  t175 := Tryz.underlying136
  a175 := Tryz.isAgg136
  z175 := Tryz.sizeOf136
  v175 := Tryz.zeroValue136
  t210 := Tryz.underlying139
  a210 := Tryz.isAgg139
  z210 := Tryz.sizeOf139
  v210 := Tryz.zeroValue139
  t212 := Tryz.underlying133
  a212 := Tryz.isAgg133
  z212 := Tryz.sizeOf133
  v212 := Tryz.zeroValue133
  t213 := Tryz.underlying134
  a213 := Tryz.isAgg134
  z213 := Tryz.sizeOf134
  t232 := Tryz.underlying150
  a232 := Tryz.isAgg150
  z232 := Tryz.sizeOf150
  v232 := Tryz.zeroValue150
  t233 := Tryz.underlying151
  a233 := Tryz.isAgg151
  z233 := Tryz.sizeOf151
  v233 := Tryz.zeroValue151
  g15 := by kernel_rfl
  g16 := by kernel_rfl
  g17 := by kernel_rfl
  g18 := by kernel_rfl
  g19 := by kernel_rfl
  t80 := Tryz.underlying63
  a80 := Tryz.isAgg63
  z80 := Tryz.sizeOf63
  v80 := Tryz.zeroValue63
  i0 := by kernel_rfl
  i2 := by kernel_rfl
  i3 := by kernel_rfl
  i4 := by kernel_rfl
  i5 := by kernel_rfl
  i9 := by kernel_rfl
  i20 := by kernel_rfl
  i21 := by kernel_rfl
  i37 := by kernel_rfl
  i46 := by kernel_rfl
  i51 := by kernel_rfl
  i53 := by kernel_rfl
  i75 := by kernel_rfl
  i76 := by kernel_rfl
  i80 := by kernel_rfl
  i85 := by kernel_rfl
  i127 := by kernel_rfl
  i143 := by kernel_rfl
  i145 := by kernel_rfl
  i167 := by kernel_rfl
  i168 := by kernel_rfl
  i171 := by kernel_rfl
  i173 := by kernel_rfl
  i175 := by kernel_rfl
  i210 := by kernel_rfl
  i212 := by kernel_rfl
  i232 := by kernel_rfl
  i233 := by kernel_rfl
  m15 := by kernel_rfl
  m16 := by kernel_rfl
  m17 := by kernel_rfl
  m18 := by kernel_rfl
  m19 := by kernel_rfl
  c0 := by kernel_rfl
  c2 := by kernel_rfl
  c3 := by kernel_rfl
  c4 := by kernel_rfl
  c5 := by kernel_rfl
  c9 := by kernel_rfl
  c20 := by kernel_rfl
  c21 := by kernel_rfl
  c37 := by kernel_rfl
  c46 := by kernel_rfl
  c51 := by kernel_rfl
  c53 := by kernel_rfl
  c75 := by kernel_rfl
  c76 := by kernel_rfl
  c80 := by kernel_rfl
  c85 := by kernel_rfl
  c127 := by kernel_rfl
  c143 := by kernel_rfl
  c145 := by kernel_rfl
  c167 := by kernel_rfl
  c168 := by kernel_rfl
  c171 := by kernel_rfl
  c173 := by kernel_rfl
  c175 := by kernel_rfl
  c210 := by kernel_rfl
  c212 := by kernel_rfl
  c213 := by kernel_rfl
  c232 := by kernel_rfl
  c233 := by kernel_rfl }
open Go.RowKit in
theorem Tryz.strconv_Atoi_ok (s : ByteArray) (hmax : s.size ≤ 9223372036854775806) (v : Int) (h : Lib.atoiAll s.data.toList = .ok v) (w : World) :
    Calls Tryz.prog 60 #[.string s] w fun e w' => e = .returned (.tuple #[.int .i64 v, .nilIface]) ∧ (w' = w ∨ ∃ t, w' = Lib.bytesWorld w 5 t) := Any.strconv_Atoi_ok Tryz.laysC172 s hmax v h w
open Go.RowKit in
theorem Tryz.strconv_Atoi_syntax (s : ByteArray) (hlim : s.size ≤ 281474976710656) (h : Lib.atoiAll s.data.toList = Lib.atoiAll []) (ev : Value) (w : World) (hv : w.cell? ⟨2, 0, none⟩ = some ev) (hev : ev = .nilIface ∨ ∃ te pe, ev = .iface te pe) :
    Calls Tryz.prog 60 #[.string s] w fun e w' => ∃ N, e = .returned (.tuple #[.int .i64 (0), .iface 125 (.pointer (some ⟨N, 0, none⟩))]) ∧ w.heap.size ≤ N ∧ w'.heap[N]? = some (.cells #[.string ⟨#[65, 116, 111, 105]⟩, .string s, ev] 139 (0, 0)) ∧ Below w.heap.size w w' := Any.strconv_Atoi_syntax Tryz.laysC172 s hlim (h.trans rfl) ev w hv hev
open Go.RowKit in
theorem Tryz.strconv_Atoi_range (s : ByteArray) (hlim : s.size ≤ 281474976710656) (h : Lib.atoiAll s.data.toList = .range) (ev : Value) (w : World) (hv : w.cell? ⟨3, 0, none⟩ = some ev) (hev : ev = .nilIface ∨ ∃ te pe, ev = .iface te pe) :
    Calls Tryz.prog 60 #[.string s] w fun e w' => ∃ N, e = .returned (.tuple #[.int .i64 (Lib.atoiSat s.data.toList), .iface 125 (.pointer (some ⟨N, 0, none⟩))]) ∧ w.heap.size ≤ N ∧ w'.heap[N]? = some (.cells #[.string ⟨#[65, 116, 111, 105]⟩, .string s, ev] 139 (0, 0)) ∧ Below w.heap.size w w' := Any.strconv_Atoi_range Tryz.laysC172 s hlim h ev w hv hev
end Go.Proofs.YtfabdnpeohpgnaaGreatDoor
namespace Go.Proofs.YtfabdnpeohpgnaaGreatDoor
set_option linter.all false
open Go.RowKit
open Go.Lib (index hasPrefix trimPrefix cut indexAny)
theorem of_bs (s : ByteArray) : (⟨s.data.toList.toArray⟩ : ByteArray) = s := by cases s; rfl
theorem Vl.tup2 {w : World} {S : Nat → Prop} {ρ : Rho} {x y : AV} {u v : Value} (h : Vl1 w S ρ x u) (k : Vl1 w S ρ y v) : Vl w S ρ (.tup [x, y]) (.tuple #[u, v]) :=
  ⟨[u, v], rfl, rfl, fun i hi => by
    match i, hi with
    | 0, _ => exact h
    | 1, _ => exact k⟩
theorem Vl.tup3 {w : World} {S : Nat → Prop} {ρ : Rho} {x y z : AV} {u v t : Value} (h : Vl1 w S ρ x u) (k : Vl1 w S ρ y v) (m : Vl1 w S ρ z t) : Vl w S ρ (.tup [x, y, z]) (.tuple #[u, v, t]) :=
  ⟨[u, v, t], rfl, rfl, fun i hi => by
    match i, hi with
    | 0, _ => exact h
    | 1, _ => exact k
    | 2, _ => exact m⟩
def unS : AV → List UInt8
  | .str l => l
  | _ => []
theorem unS_map (ps : List (List UInt8)) : (ps.map AV.str).map unS = ps := by rw [List.map_map]; simp [unS, Function.comp_def]
end Go.Proofs.YtfabdnpeohpgnaaGreatDoor
namespace Go.Proofs.YtfabdnpeohpgnaaGreatDoor
set_option linter.all false
open Go.RowKit
def bwbS : Spec := fun xs hp => match xs, hp with
  | [.ref 0 0 0, .int .u8 c], [.cells T [(1, X), (1, .own 1 v)], .row e 1 v' bs] => if selfX X = true ∧ v = v' ∧ e = 5 then some ⟨.con .nilIface, [.cells T [(1, .ref 0 0 0), (1, .own 1 (v + 1))], .row 5 1 (v + 1) (bs ++ [.int .u8 c])], T = 75 ∧ bytesOk (bs.length + 1)⟩ else none
  | _, _ => none
theorem bwb_ok : FnOk Tryz.prog 38 bwbS := by
  refine fn_slim2 Tryz.func38 s_bwb (Φ := phiL [(55, [], copyCheckS)]) (phi_cons copyCheckA_ok (by kernel_rfl) phi_nil) ?_
  intro xs hp r hs hp'
  unfold bwbS at hs
  split at hs
  · rename_i c T X v e v' bs
    split at hs
    · rename_i hX
      obtain ⟨hX, rfl, rfl⟩ := hX
      injection hs with hs; subst hs
      obtain ⟨rfl, p2⟩ := hp'
      refine ⟨len_le (by kernel_rfl), ?_⟩
      unfold bytesOk at p2
      have hlen : (bs ++ [AV.int .u8 c]).length = bs.length + 1 := by simp
      rcases selfX_or hX with rfl | rfl
      · simp only [c_bwb, r_bwb, copyCheckS, hX, go_sem, Nat.reduceDiv, Nat.reduceMod, ↓reduceIte, Nat.reduceEqDiff, Nat.reduceBEq, Nat.reduceSub, Nat.reduceLT, Nat.reduceAdd, Nat.reduceLeDiff, reduceCtorEq, Int.reduceEq, Int.reduceNe, Int.reduceLT, Int.reduceLE, Int.reduceToNat]
        refine ⟨by rw [hlen]; (first | omega | (simp only [lenOk, bytesOk, inI, IntKind.bits, List.length_append, Bs_len, List.length_cons, List.length_nil, List.length_map, List.length_take, List.length_drop, List.length_replicate]; omega)), by rw [hlen]; (first | omega | (simp only [lenOk, bytesOk, inI, IntKind.bits, List.length_append, Bs_len, List.length_cons, List.length_nil, List.length_map, List.length_take, List.length_drop, List.length_replicate]; omega))⟩
      · simp only [c_bwb, r_bwb, copyCheckS, hX, go_sem, Nat.reduceDiv, Nat.reduceMod, ↓reduceIte, Nat.reduceEqDiff, Nat.reduceBEq, Nat.reduceSub, Nat.reduceLT, Nat.reduceAdd, Nat.reduceLeDiff, reduceCtorEq, Int.reduceEq, Int.reduceNe, Int.reduceLT, Int.reduceLE, Int.reduceToNat]
        refine ⟨by rw [hlen]; (first | omega | (simp only [lenOk, bytesOk, inI, IntKind.bits, List.length_append, Bs_len, List.length_cons, List.length_nil, List.length_map, List.length_take, List.length_drop, List.length_replicate]; omega)), by rw [hlen]; (first | omega | (simp only [lenOk, bytesOk, inI, IntKind.bits, List.length_append, Bs_len, List.length_cons, List.length_nil, List.length_map, List.length_take, List.length_drop, List.length_replicate]; omega))⟩
    · cases hs
  · cases hs
def joinW (sep : List UInt8) : List (List UInt8) → List UInt8
  | [] => []
  | x :: xs => x ++ xs.flatMap (sep ++ ·)
def sumL (xs : List (List UInt8)) : Nat := (xs.map List.length).sum
def joinS : Spec := fun xs hp => match xs, hp with
  | [.sl kq ps, .str sep], [] => some ⟨.str (joinW sep (ps.map unS)), [], ps = (ps.map unS).map AV.str ∧ (kq = 1 ∨ ps = []) ∧ ps.length ≤ 1000000 ∧ sep.length ≤ 1000000 ∧ sumL (ps.map unS) ≤ 1000000000⟩
  | _, _ => none
theorem sum_take (xs : List (List UInt8)) {i : Nat} (h : i < xs.length) : sumL (xs.take (i + 1)) = sumL (xs.take i) + xs[i].length := by
  unfold sumL
  rw [List.take_add_one, List.getElem?_eq_getElem h, Option.toList_some, List.map_append, List.sum_append]; simp
theorem sum_take_le (xs : List (List UInt8)) (i : Nat) : sumL (xs.take i) ≤ sumL xs := by
  conv => rhs; rw [← List.take_append_drop i xs]
  unfold sumL
  rw [List.map_append, List.sum_append]; omega
theorem flat_sep_len (sep : List UInt8) (xs : List (List UInt8)) : (xs.flatMap (sep ++ ·)).length = sep.length * xs.length + sumL xs := by
  induction xs with
  | nil => simp [sumL]
  | cons x xs ih =>
    rw [List.flatMap_cons, List.length_append, ih, List.length_append, List.length_cons, Nat.mul_add]
    simp only [sumL, List.map_cons, List.sum_cons]; omega
theorem quo_big {k : Nat} (h0 : 0 < k) (h1 : k ≤ 1000000) : (9000000000000 : Int) ≤ (9223372036854775807 : Int).tdiv (k : Int) := by
  rw [Int.tdiv_eq_ediv_of_nonneg (by decide)]
  exact Int.le_ediv_of_mul_le (by omega) (by omega)
def phiJ : Phi := phiL [(40, [], growS), (37, [], bwsS), (39, [], bstrS)]
theorem phiJ_ok : PhiOk Tryz.prog phiJ := phi_cons grow_ok (by kernel_rfl) (phi_cons bws_ok (by kernel_rfl) (phi_cons bstr_ok (by kernel_rfl) phi_nil))
theorem phiJ_1 : phiJ 40 = some ([], growS) := rfl
theorem phiJ_2 : phiJ 37 = some ([], bwsS) := rfl
theorem phiJ_3 : phiJ 39 = some ([], bstrS) := rfl
set_option maxHeartbeats 2000000 in
theorem join_core {sep x : List UInt8} {ys : List (List UInt8)} (n0 : Int) (h0 : 0 ≤ n0) (h1 : n0 ≤ 1000000000000) (hl : (x :: ys).length ≤ 1000000) (hsp : sep.length ≤ 1000000) (hsm : sumL (x :: ys) ≤ 1000000000) (pr : Prop) (s0 : S2)
    (hk : ent [] [0, 1, 5, 39, 40, 41] [] (toS s0) = some ⟨[(0, .sl 1 ((x :: ys).map AV.str)), (1, .str sep), (5, .int .i64 n0), (39, .sl 1 ((x :: ys).map AV.str)), (40, .int .i64 ((x :: ys).length : Int)), (41, .int .i64 ((0 : Nat) : Int))], []⟩) :
    loopQ2 0 (awp2 phiJ 0 b_sjoin_0) (inQ2 1 (thenQ2 (awp2 phiJ 0 t_sjoin_1 (retQ2 r_sjoin 0 ⟨.str (joinW sep (x :: ys)), [], pr⟩)) (retQ2 r_sjoin 0 ⟨.str (joinW sep (x :: ys)), [], pr⟩))) s0 := by
  have hjw : joinW sep (x :: ys) = x ++ ys.flatMap (sep ++ ·) := rfl
  have hsx : sumL (x :: ys) = x.length + sumL ys := by simp [sumL]
  have hyl : (x :: ys).length = ys.length + 1 := rfl
  have hd1 : (((x :: ys).map AV.str).take (x :: ys).length).drop 1 = ys.map AV.str := by rw [List.take_of_length_le (by simp)]; rfl
  have hg0 : ((x :: ys).map AV.str).getD 0 (AV.str []) = AV.str x := rfl
  have hml : ((x :: ys).map AV.str).length = (x :: ys).length := List.length_map ..
  generalize hzs : x :: ys = zs at *
  refine loop2P [] [0, 1, 5, 39, 40, 41] [] (fun q : Nat × Int => ⟨[(0, .sl 1 (zs.map AV.str)), (1, .str sep), (5, .int .i64 q.2), (39, .sl 1 (zs.map AV.str)), (40, .int .i64 (zs.length : Int)), (41, .int .i64 (q.1 : Int))], []⟩)
    (fun q => q.1 ≤ zs.length ∧ 0 ≤ q.2 ∧ q.2 ≤ 1000000000000 + (sumL (zs.take q.1) : Int)) (fun q => zs.length - q.1) (0, n0) hk ⟨Nat.zero_le _, h0, by simp only [List.take_zero, sumL, List.map_nil, List.sum_nil]; omega⟩ ⟨rfl, by rfl⟩ (fun q hq R hR => ?_)
  obtain ⟨i, n⟩ := q
  simp only at hq hR ⊢
  obtain ⟨i1, i2, i3⟩ := hq
  have hst := sum_take_le zs i
  by_cases hil : i < zs.length
  · have c1 : decide ((i : Int) < (zs.length : Int)) = true := decide_eq_true (by omega)
    have hget := getD_map AV.str zs [] (AV.str []) hil
    have hga : zs.getD i [] = zs[i] := by simp [List.getD_eq_getElem?_getD, List.getElem?_eq_getElem hil]
    have hsk := sum_take zs hil
    have hsl := sum_take_le zs (i + 1)
    have c2 : decide ((9223372036854775807 : Int) - n < (zs[i].length : Int)) = false := decide_eq_false (by omega)
    simp only [b_sjoin_0, c1, c2, hget, hga, Int.toNat_natCast, hml, go_sem, Nat.reduceDiv, Nat.reduceMod, ↓reduceIte, Nat.reduceEqDiff, Nat.reduceBEq, Nat.reduceSub, Nat.reduceLT, Nat.reduceAdd, Nat.reduceLeDiff, reduceCtorEq, Int.reduceEq, Int.reduceNe, Int.reduceLT, Int.reduceLE, Int.reduceToNat]
    refine ⟨⟨by omega, by omega⟩, ⟨by omega, by omega⟩, ⟨by omega, by omega⟩, ⟨by omega, by omega⟩, hR _ (i + 1, n + (zs[i].length : Int)) ⟨hil, by simp only; omega, by simp only; omega⟩ (by simp only; omega) rfl⟩
  · have c1 : decide ((i : Int) < (zs.length : Int)) = false := decide_eq_false (by omega)
    have hX0 : selfX (.con (.pointer none)) = true := rfl
    have hX1 : selfX (.ref 0 0 0) = true := rfl
    have hz0 : 0 < zs.length := by omega
    simp only [b_sjoin_0, t_sjoin_1, c1, phiJ_1, phiJ_2, growS, bwsS, hX0, hX1, hg0, hd1, hml, if_true, go_sem, Nat.reduceDiv, Nat.reduceMod, ↓reduceIte, Nat.reduceEqDiff, Nat.reduceBEq, Nat.reduceSub, Nat.reduceLT, Nat.reduceAdd, Nat.reduceLeDiff, reduceCtorEq, Int.reduceEq, Int.reduceNe, Int.reduceLT, Int.reduceLE, Int.reduceToNat]
    have hfl := flat_sep_len sep ys
    have hsy : sep.length * ys.length ≤ 1000000 * 1000000 := Nat.mul_le_mul hsp (by omega)
    refine ⟨⟨by omega, by omega⟩, by omega, by (first | omega | (simp only [lenOk, bytesOk, inI, IntKind.bits, List.length_append, Bs_len, List.length_cons, List.length_nil, List.length_map, List.length_take, List.length_drop, List.length_replicate]; omega)), ⟨by omega, by omega⟩, ?_⟩
    clear hR R
    refine loop2P [] [1, 8, 63, 64, 65] [0, 1] (fun j : Nat => ⟨[(1, .str sep), (8, .ref 0 0 0), (63, .sl 1 (ys.map AV.str)), (64, .int .i64 (ys.length : Int)), (65, .int .i64 (j : Int))], [.cells 75 [(1, .ref 0 0 0), (1, .own 1 (1 + 2 * j))], .row 5 1 (1 + 2 * j) (Bs (x ++ (ys.take j).flatMap (sep ++ ·)))]⟩)
      (fun j => j ≤ ys.length) (fun j => ys.length - j) 0 ?_ (Nat.zero_le _) ⟨rfl, by rfl⟩ (fun j hj R hR => ?_)
    · simp only [List.take_zero, List.flatMap_nil, List.append_nil]
      rfl
    by_cases hjl : j < ys.length
    · have d1 : decide ((j : Int) < (ys.length : Int)) = true := decide_eq_true (by omega)
      have hgetj := getD_map AV.str ys [] (AV.str []) hjl
      have hgaj : ys.getD j [] = ys[j] := by simp [List.getD_eq_getElem?_getD, List.getElem?_eq_getElem hjl]
      have hlt := flatMap_take_le (sep ++ ·) ys (j + 1)
      have hft := flatMap_take (sep ++ ·) ys hjl
      rw [← hft] at hlt
      simp only [List.length_append] at hlt
      simp only [b_sjoin_1, d1, phiJ_2, bwsS, hX1, hgetj, hgaj, if_true, Int.toNat_natCast, List.length_map, Bs_app, go_sem, Nat.reduceDiv, Nat.reduceMod, ↓reduceIte, Nat.reduceEqDiff, Nat.reduceBEq, Nat.reduceSub, Nat.reduceLT, Nat.reduceAdd, Nat.reduceLeDiff, reduceCtorEq, Int.reduceEq, Int.reduceNe, Int.reduceLT, Int.reduceLE, Int.reduceToNat]
      refine ⟨⟨by omega, by omega⟩, by simp only [bytesOk, List.length_append]; omega, by simp only [bytesOk, List.length_append]; omega, ⟨by omega, by omega⟩, hR _ (j + 1) hjl (by omega) ?_⟩
      have e : x ++ (ys.take (j + 1)).flatMap (sep ++ ·) = x ++ (ys.take j).flatMap (sep ++ ·) ++ sep ++ ys[j] := by rw [← hft]; simp
      rw [e]
      rfl
    · have d1 : decide ((j : Int) < (ys.length : Int)) = false := decide_eq_false (by omega)
      obtain rfl : j = ys.length := by omega
      rw [List.take_length, ← hjw]
      simp only [b_sjoin_1, t_sjoin_0, r_sjoin, d1, phiJ_3, bstrS, unB_Bs, if_true, go_sem, Nat.reduceDiv, Nat.reduceMod, ↓reduceIte, Nat.reduceEqDiff, Nat.reduceBEq, Nat.reduceSub, Nat.reduceLT, Nat.reduceAdd, Nat.reduceLeDiff, reduceCtorEq, Int.reduceEq, Int.reduceNe, Int.reduceLT, Int.reduceLE, Int.reduceToNat]
set_option maxHeartbeats 2000000 in
theorem join_ok : FnOk Tryz.prog 18 joinS := by
  refine fn_slim2 Tryz.func18 s_sjoin phiJ_ok ?_
  intro xs hp r hs hp'
  unfold joinS at hs
  split at hs
  · injection hs with hs; subst hs
    rename_i kq ps sep
    obtain ⟨p1, p2, p3, p4, p5⟩ := hp'
    generalize ps.map unS = ps at *
    subst p1
    rw [List.length_map] at p3
    refine ⟨len_le (by kernel_rfl), ?_⟩
    match ps, p2, p3, p5 with
    | [], _, _, _ =>
      simp only [c_sjoin, r_sjoin, joinW, go_sem, Nat.reduceDiv, Nat.reduceMod, ↓reduceIte, Nat.reduceEqDiff, Nat.reduceBEq, Nat.reduceSub, Nat.reduceLT, Nat.reduceAdd, Nat.reduceLeDiff, reduceCtorEq, Int.reduceEq, Int.reduceNe, Int.reduceLT, Int.reduceLE, Int.reduceToNat]
    | [x], p2, _, _ =>
      have hk : kq = 1 := p2.resolve_right (by simp)
      subst hk
      simp only [c_sjoin, r_sjoin, joinW, List.flatMap_nil, List.append_nil, go_sem, Nat.reduceDiv, Nat.reduceMod, ↓reduceIte, Nat.reduceEqDiff, Nat.reduceBEq, Nat.reduceSub, Nat.reduceLT, Nat.reduceAdd, Nat.reduceLeDiff, reduceCtorEq, Int.reduceEq, Int.reduceNe, Int.reduceLT, Int.reduceLE, Int.reduceToNat]
    | x :: y :: rest, p2, p3, p5 =>
      have hk : kq = 1 := p2.resolve_right (by simp)
      subst hk
      clear p2
      have hcore := fun n0 h0 h1 => join_core (sep := sep) (x := x) (ys := y :: rest) n0 h0 h1 p3 p4 p5
      have hpos : 2 ≤ (x :: y :: rest).length := by simp
      generalize x :: y :: rest = zs at *
      have d0 : decide ((zs.length : Int) = 0) = false := decide_eq_false (by omega)
      have d1 : decide ((zs.length : Int) = 1) = false := decide_eq_false (by omega)
      have hq := quo_big (k := zs.length - 1) (by omega) (by omega)
      have hq : (9000000000000 : Int) ≤ (9223372036854775807 : Int).tdiv ((zs.length : Int) - 1) := by rwa [show ((zs.length - 1 : Nat) : Int) = (zs.length : Int) - 1 by omega] at hq
      have hq2 : (9223372036854775807 : Int).tdiv ((zs.length : Int) - 1) ≤ 9223372036854775807 := by
        rw [Int.tdiv_eq_ediv_of_nonneg (by decide)]
        exact Int.ediv_le_self _ (by decide)
      have d3 : decide ((9223372036854775807 : Int).tdiv ((zs.length : Int) - 1) ≤ (sep.length : Int)) = false := decide_eq_false (by omega)
      have hmul : 0 ≤ (sep.length : Int) * ((zs.length : Int) - 1) ∧ (sep.length : Int) * ((zs.length : Int) - 1) ≤ 1000000000000 := by
        have h1 : sep.length * (zs.length - 1) ≤ 1000000 * 1000000 := Nat.mul_le_mul p4 (by omega)
        have h2 : (sep.length : Int) * ((zs.length : Int) - 1) = ((sep.length * (zs.length - 1) : Nat) : Int) := by
          rw [Int.natCast_mul, show ((zs.length - 1 : Nat) : Int) = (zs.length : Int) - 1 by omega]
        omega
      obtain ⟨hm0, hm1⟩ := hmul
      cases h2 : decide (0 < (sep.length : Int)) with
      | false =>
        simp only [c_sjoin, d0, d1, h2, List.length_map, go_sem, Nat.reduceDiv, Nat.reduceMod, ↓reduceIte, Nat.reduceEqDiff, Nat.reduceBEq, Nat.reduceSub, Nat.reduceLT, Nat.reduceAdd, Nat.reduceLeDiff, reduceCtorEq, Int.reduceEq, Int.reduceNe, Int.reduceLT, Int.reduceLE, Int.reduceToNat]
        exact hcore 0 (by omega) (by omega) _ _ (by rfl)
      | true =>
        simp only [c_sjoin, d0, d1, d3, h2, List.length_map, go_sem, Nat.reduceDiv, Nat.reduceMod, ↓reduceIte, Nat.reduceEqDiff, Nat.reduceBEq, Nat.reduceSub, Nat.reduceLT, Nat.reduceAdd, Nat.reduceLeDiff, reduceCtorEq, Int.reduceEq, Int.reduceNe, Int.reduceLT, Int.reduceLE, Int.reduceToNat]
        generalize (9223372036854775807 : Int).tdiv ((zs.length : Int) - 1) = Q at *
        generalize (sep.length : Int) * ((zs.length : Int) - 1) = M at *
        exact ⟨⟨by omega, by omega⟩, ⟨by omega, by omega, by omega⟩, ⟨by omega, by omega⟩, ⟨by omega, by omega⟩, ⟨by omega, by omega⟩, hcore (0 + M) (by omega) (by omega) _ _ (by rfl)⟩
  · cases hs
end Go.Proofs.YtfabdnpeohpgnaaGreatDoor
namespace Go.Proofs.YtfabdnpeohpgnaaGreatDoor
set_option linter.all false
open Go.RowKit
def o8 (n : Nat) : UInt8 := UInt8.ofNat n
theorem o8_toNat (n : Nat) : (o8 n).toNat = n % 256 := by simp [o8]
theorem ub_o8 (n : Nat) : ub (o8 n) = .int .u8 ((n % 256 : Nat) : Int) := by simp [ub, o8_toNat]
theorem Bs_o8 (n : Nat) (h : n < 256) : [(.int .u8 (n : Int) : AV)] = Bs [o8 n] := by simp [Bs, ub_o8, Nat.mod_eq_of_lt h]
end Go.Proofs.YtfabdnpeohpgnaaGreatDoor
namespace Go.Proofs.YtfabdnpeohpgnaaGreatDoor
set_option linter.all false
open Go.RowKit
open Go.Lib (decDigits itoa atoiAll parseUint10 parseMag nDigits)
def dc (d : Nat) : UInt8 := UInt8.ofNat (48 + d)
theorem dc_toNat {d : Nat} (h : d < 10) : (dc d).toNat = 48 + d := by simp [dc]; omega
theorem decD_small {n : Nat} (h : n < 10) : decDigits n = [dc n] := by rw [decDigits, dif_pos h]; rfl
theorem decD_big {n : Nat} (h : 10 ≤ n) : decDigits n = decDigits (n / 10) ++ [dc (n % 10)] := by rw [decDigits, dif_neg (by omega)]; rfl
theorem decD_pow (k n : Nat) (h : n < 10 ^ (k + 1)) : (decDigits n).length ≤ k + 1 := by
  induction k generalizing n with
  | zero => rw [decD_small (by simpa using h)]; simp
  | succ k ih =>
    by_cases h1 : n < 10
    · rw [decD_small h1]; simp
    · rw [decD_big (by omega)]
      have := ih (n / 10) (by rw [Nat.pow_succ] at h; omega)
      simp; omega
theorem decD_head (n : Nat) : ∃ d r, decDigits n = dc d :: r ∧ d < 10 ∧ (0 < n → 0 < d) ∧ (n < 10 → r = []) := by
  induction n using Nat.strongRecOn with
  | _ n ih =>
    by_cases h : n < 10
    · exact ⟨n, [], decD_small h, h, fun h => h, fun _ => rfl⟩
    · obtain ⟨d, r, e, h1, h2, _⟩ := ih (n / 10) (by omega)
      refine ⟨d, r ++ [dc (n % 10)], by rw [decD_big (by omega), e]; rfl, h1, fun _ => h2 (by omega), fun hh => absurd hh h⟩
theorem itoa_nat (n : Nat) : itoa (n : Int) = decDigits n := Lib.itoa_nonneg n
theorem pu_dec (n : Nat) (h : n < 18446744073709551616) (r : List UInt8) : parseUint10 0 (decDigits n ++ r) = parseUint10 n r := by
  induction n using Nat.strongRecOn generalizing r with
  | _ n ih =>
    by_cases h1 : n < 10
    · rw [decD_small h1]
      simp only [List.cons_append, List.nil_append, parseUint10, dc_toNat h1]
      rw [if_pos (by omega), if_neg (by omega), if_neg (by omega)]
      congr 1; omega
    · rw [decD_big (by omega), List.append_assoc, ih (n / 10) (by omega) (by omega)]
      have hd : n % 10 < 10 := by omega
      simp only [List.cons_append, List.nil_append, parseUint10, dc_toNat hd]
      rw [if_pos (by omega), if_neg (by omega), if_neg (by omega)]
      congr 1; omega
theorem atoi_dec (n : Nat) (h : n < 9223372036854775808) : atoiAll (decDigits n) = .ok (n : Int) := by
  obtain ⟨d, r, e, h1, _, _⟩ := decD_head n
  have hp : parseMag (decDigits n) = .ok n := by
    have := pu_dec n (by omega) []
    rw [List.append_nil] at this
    unfold parseMag
    rw [if_neg (by rw [e]; simp), this]; rfl
  have ht := dc_toNat h1
  rw [e] at hp ⊢
  unfold atoiAll
  simp only [ht]
  rw [if_neg (by omega), hp]
  simp only
  rw [if_neg (by omega), if_neg (by omega), if_neg (by omega)]
def decV (s : List UInt8) : Option Nat :=
  match atoiAll s with
  | .ok v => if 0 ≤ v ∧ v < 4611686018427387904 ∧ itoa v = s then some v.toNat else none
  | _ => none
theorem decV_dec (n : Nat) (h : n < 4611686018427387904) : decV (decDigits n) = some n := by
  unfold decV
  rw [atoi_dec n (by omega)]
  simp only
  rw [if_pos ⟨by omega, by omega, itoa_nat n⟩]; rfl
theorem decV_some {s : List UInt8} {n : Nat} (h : decV s = some n) : s = decDigits n ∧ n < 4611686018427387904 := by
  unfold decV at h
  split at h
  · split at h
    · rename_i v _ hc
      obtain ⟨h1, h2, h3⟩ := hc
      injection h with h
      subst h
      refine ⟨?_, by omega⟩
      rw [← h3, ← itoa_nat, Int.toNat_of_nonneg h1]
    · cases h
  · cases h
end Go.Proofs.YtfabdnpeohpgnaaGreatDoor
namespace Go.Proofs.YtfabdnpeohpgnaaGreatDoor
set_option linter.all false
open Go.RowKit
open Go.Lib (itoa)
open Go.Sort (grow)
theorem tab_of {w : World} {S : Nat → Prop} (h : GlobOk w S) : Lib.TabIs Tryz.prog w "internal/strconv.uint64pow10" .u64 Lib.pow10Tab := by
  obtain ⟨_, us, t, fr, h2, _, h4⟩ := h.1 1 20 (.blob (Lib.pow10Tab.map fun z => .int .u64 z)) (by kernel_rfl)
  have h5 : us = Lib.pow10Tab.map fun z => Value.int .u64 z := by cases h2; rfl
  unfold Lib.TabIs World.var?
  rw [show Tryz.prog.globalNamed "internal/strconv.uint64pow10" = some 1 by kernel_rfl]
  simp only [Option.bind_some, h4, h5]
theorem below_grow (w : World) (k : Nat) (os : Array Obj) : Below w.heap.size w (grow (w.drewN k) os) := by
  have e : ∀ k, (w.drewN k).heap = w.heap ∧ (w.drewN k).os = w.os ∧ (w.drewN k).tape = w.tape ∧ (w.drewN k).output = w.output := by
    intro k
    induction k with
    | zero => exact ⟨rfl, rfl, rfl, rfl⟩
    | succ k ih => simpa [World.drewN] using ih
  obtain ⟨e1, e2, e3, e4⟩ := e k
  refine ⟨by simp [grow, e2], by simp [grow, e3], by simp [grow, e4], by simp [grow, e1], fun j hj => ?_⟩
  simp [grow, e1, Array.getElem?_append_left hj]
def itoaS : Spec := fun xs hp => match xs, hp with
  | [.int .i64 n], [] => some ⟨.str (itoa n), [], inI n⟩
  | _, _ => none
theorem itoa_ok : FnOk Tryz.prog 36 itoaS := by
  refine fnok_of_calls fun xs0 hp r hs hp' => ?_
  unfold itoaS at hs
  split at hs
  · rename_i n
    injection hs with hs; subst hs
    refine ⟨rfl, rfl, fun w S ρ args hS ha => ?_⟩
    obtain ⟨v, vs, rfl, hv, hr⟩ := ha.get _ _ rfl
    obtain rfl := hr.none
    rw [hv.int]
    refine (Tryz.strconv_Itoa n hp'.1 hp'.2 w (tab_of ha.glob)).mono ?_
    rintro e w' ⟨rfl, k, os, rfl⟩
    exact ⟨_, rfl, below_grow w k os, fun _ _ _ => Vl.str' _⟩
  · cases hs
end Go.Proofs.YtfabdnpeohpgnaaGreatDoor
namespace Go.Proofs.YtfabdnpeohpgnaaGreatDoor
set_option linter.all false
open Go.RowKit
open Go.Lib (itoa atoiAll)
def atoiR (s : List UInt8) : Lib.NumEnd Int → AV
  | .ok v => .tup [.int .i64 v, .con .nilIface]
  | .range => .tup [.int .i64 (Lib.atoiSat s), .iface 125 .top]
  | _ => .tup [.int .i64 0, .iface 125 .top]
def atoiS : Spec := fun xs hp => match xs, hp with
  | [.str s], [] => some ⟨atoiR s (atoiAll s), [], s.length ≤ 281474976710656⟩
  | _, _ => none
theorem tup2 {w : World} {S : Nat → Prop} {ρ : Rho} {x y : AV} {u v : Value} (hx : Vl1 w S ρ x u) (hy : Vl1 w S ρ y v) : Vl w S ρ (.tup [x, y]) (.tuple #[u, v]) :=
  ⟨[u, v], rfl, rfl, fun i hi => by
    match i, hi with
    | 0, _ => exact hx
    | 1, _ => exact hy⟩
theorem ifaceTop {w : World} {S : Nat → Prop} {ρ : Rho} (t : TypeId) (v : Value) (h : v.oneCell' = true) : Vl1 w S ρ (.iface t .top) (.iface t v) :=
  .inr ⟨[.iface t v], .iface t .top [v] (.top _ fun u hu => by simp only [List.mem_singleton] at hu; subst hu; exact h), rfl⟩
theorem err_cell {w : World} {S : Nat → Prop} {g : Nat} {t : TypeId} {l : List UInt8} (h : GlobOk w S) (hg : glob1 g globs = some (1, .iface t (.ptr 1 (.str l) 0 0))) : ∃ ev, w.cell? ⟨g, 0, none⟩ = some ev ∧ ∃ te pe, ev = .iface te pe := by
  obtain ⟨_, us, ty, fr, h2, _, h4⟩ := h.1 _ _ _ hg
  cases h2 with
  | iface _ _ vs _ => exact ⟨_, by rw [cell_of_row w g 0 _ ty fr h4]; rfl, _, _, rfl⟩
theorem atoi_ok : FnOk Tryz.prog 60 atoiS := by
  refine fnok_of_calls fun xs0 hp r hs hp' => ?_
  unfold atoiS at hs
  split at hs
  · rename_i s
    injection hs with hs; subst hs
    refine ⟨rfl, rfl, fun w S ρ args hS ha => ?_⟩
    obtain ⟨v, vs, rfl, hv, hr⟩ := ha.get _ _ rfl
    obtain rfl := hr.none
    rw [hv.str]
    have hsz : (⟨s.toArray⟩ : ByteArray).size = s.length := rfl
    have hl : s.length ≤ 281474976710656 := hp'
    rcases h : atoiAll s with v | _ | _
    · refine (Tryz.strconv_Atoi_ok ⟨s.toArray⟩ (by rw [hsz]; omega) v h w).mono ?_
      rintro e w' ⟨rfl, hw⟩
      refine ⟨_, rfl, ?_, fun _ _ _ => tup2 (.inr ⟨_, .int _ _, rfl⟩) (.inr ⟨_, .con _ rfl, rfl⟩)⟩
      rcases hw with rfl | ⟨t, rfl⟩
      · exact Below.refl _ _
      · exact Lib.bytesWorld_below _ _ _
    · obtain ⟨ev, h1, te, pe, h2⟩ := err_cell ha.glob (g := 2) rfl
      refine (Tryz.strconv_Atoi_syntax ⟨s.toArray⟩ (by rw [hsz]; omega) (h.trans rfl) ev w h1 (.inr ⟨te, pe, h2⟩)).mono ?_
      rintro e w' ⟨N, rfl, _, _, hb⟩
      exact ⟨_, rfl, hb, fun _ _ _ => tup2 (.inr ⟨_, .int _ _, rfl⟩) (ifaceTop _ _ rfl)⟩
    · obtain ⟨ev, h1, te, pe, h2⟩ := err_cell ha.glob (g := 3) rfl
      refine (Tryz.strconv_Atoi_range ⟨s.toArray⟩ (by rw [hsz]; omega) h ev w h1 (.inr ⟨te, pe, h2⟩)).mono ?_
      rintro e w' ⟨N, rfl, _, _, hb⟩
      exact ⟨_, rfl, hb, fun _ _ _ => tup2 (.inr ⟨_, .int _ _, rfl⟩) (ifaceTop _ _ rfl)⟩
  · cases hs
end Go.Proofs.YtfabdnpeohpgnaaGreatDoor
namespace Go.Proofs.YtfabdnpeohpgnaaGreatDoor
set_option linter.all false
open Go.RowKit
noncomputable def sealF {α β : Type} (f : α → β) : α → β := Classical.choose (⟨f, fun _ => rfl⟩ : ∃ g : α → β, ∀ a, g a = f a)
theorem sealF_eq {α β : Type} (f : α → β) (a : α) : sealF f a = f a := Classical.choose_spec (⟨f, fun _ => rfl⟩ : ∃ g : α → β, ∀ a, g a = f a) a
theorem tdiv_nat (n k : Nat) : ((n : Int)).tdiv (k : Int) = ((n / k : Nat) : Int) := by rw [Int.tdiv_eq_ediv_of_nonneg (by omega)]; rfl
theorem tmod_nat (n k : Nat) : ((n : Int)).tmod (k : Int) = ((n % k : Nat) : Int) := by rw [Int.tmod_eq_emod_of_nonneg (by omega)]; rfl
theorem wrap8n {n : Nat} (h : n < 256) : IntKind.u8.wrap (n : Int) = (n : Int) := by rw [IntKind.wrap_u8']; omega
end Go.Proofs.YtfabdnpeohpgnaaGreatDoor
