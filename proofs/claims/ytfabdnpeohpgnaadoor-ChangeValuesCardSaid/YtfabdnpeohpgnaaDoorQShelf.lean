import Derived.Shelf.Strings.Builder1
import Derived.Shelf.Small.Utf8
import Derived.Shelf.Small.Strs
import Derived.Shelf.Small.Wraps
import Derived.Shelf.Strconv.Itoa0
import Derived.Shelf.LaysM
import Derived.Shelf.Strconv.Itoa3
import Derived.Shelf.LaysC
import Derived.Shelf.Strconv.AtoiAll
import Derived.Shelf.Strings.Search1
import Derived.Shelf.Strings.Search3
import Derived.Shelf.Strings.Cut
import Derived.Shelf.Strings.Split
import Derived.Shelf.Strings.Runes
import Derived.Shelf.Strings.IndexAny
import Derived.Shelf.Strings.IndexAnyAll
import Derived.Test.YtfabdnpeohpgnaaDoorProg
import Derived.Test.YtfabdnpeohpgnaaDoorQAMS
import Derived.Test.YtfabdnpeohpgnaaDoorQFGrow
import Derived.Lib.ItoaNum
import Derived.Lib.ItoaMem
import Derived.Lib.AtoiAll
import Derived.Laws.BitsAllLaws
import Derived.Test.YtfabdnpeohpgnaaDoorChecked
import Derived.Sort.Grow
namespace Go.Proofs.YtfabdnpeohpgnaaDoor
set_option linter.all false
open Go.Shelf
def Tryd.lays169_ren : Go.Shelf.Ren := ⟨fun | 169 => 29 | n => n, fun | 70 => 68 | 9 => 9 | 0 => 0 | 72 => 70 | 37 => 27 | 127 => 86 | 3 => 3 | 5 => 5 | n => n, fun | n => n⟩
theorem Tryd.lays169 : Go.Proofs.Lays.n169 Tryd.prog Tryd.lays169_ren := {
  mixed := by kernel_rfl
  f169 := Tryd.func29.trans (congrArg some (by kernel_rfl))
  t0 := Tryd.underlying0
  a0 := Tryd.isAgg0
  z0 := Tryd.sizeOf0
  v0 := Tryd.zeroValue0
  t3 := Tryd.underlying3
  a3 := Tryd.isAgg3
  z3 := Tryd.sizeOf3
  v3 := Tryd.zeroValue3
  t9 := Tryd.underlying9
  a9 := Tryd.isAgg9
  z9 := Tryd.sizeOf9
  v9 := Tryd.zeroValue9
  t37 := Tryd.underlying27
  a37 := Tryd.isAgg27
  z37 := Tryd.sizeOf27
  v37 := Tryd.zeroValue27
  t70 := Tryd.underlying68
  a70 := Tryd.isAgg68
  z70 := Tryd.sizeOf68
  v70 := Tryd.zeroValue68
  t72 := Tryd.underlying70
  a72 := Tryd.isAgg70
  z72 := Tryd.sizeOf70
  v72 := Tryd.zeroValue70
  t127 := Tryd.underlying86
  a127 := Tryd.isAgg86
  z127 := Tryd.sizeOf86
  v127 := Tryd.zeroValue86 }
theorem Tryd.Builder_Extra_169 : Builder.Extra Tryd.prog Tryd.lays169_ren := {
  sizeBuilder := by kernel_rfl
  liesBuilder := by kernel_rfl
  t5 := Tryd.underlying5
  a5 := Tryd.isAgg5
  z5 := Tryd.sizeOf5
  v5 := Tryd.zeroValue5
  infoByte := by kernel_rfl
  cellsByte := by kernel_rfl
  sizeByte := by kernel_rfl
  neB5 := by decide }
open Go.RowKit in
theorem Tryd.Builder_String_any (B b : Nat) (l : List UInt8) (w : World) (h : Lib.IsBuilder 70 5 B b (Lib.byteCells l) w) (hBw : B ≤ w.heap.size) :
    Calls Tryd.prog 29 #[.pointer (some ⟨b, 0, none⟩)] w fun e w' => e = .returned (.string ⟨l.toArray⟩) ∧ Below B w w' := Any.Builder_String_any Tryd.lays169 Tryd.Builder_Extra_169 B b l w h hBw
def Tryd.lays119_ren : Go.Shelf.Ren := ⟨fun | 119 => 81 | n => n, fun | 21 => 21 | 4 => 4 | n => n, fun | n => n⟩
theorem Tryd.lays119 : Go.Proofs.Lays.n119 Tryd.prog Tryd.lays119_ren := {
  mixed := by kernel_rfl
  f119 := Tryd.func81.trans (congrArg some (by kernel_rfl))
  t4 := Tryd.underlying4
  a4 := Tryd.isAgg4
  z4 := Tryd.sizeOf4
  v4 := Tryd.zeroValue4
  t21 := Tryd.underlying21
  a21 := Tryd.isAgg21
  z21 := Tryd.sizeOf21
  v21 := Tryd.zeroValue21 }
theorem Tryd.utf8_ValidRune (r : Int) (w : World) :
    Calls Tryd.prog 81 #[.int .i32 r] w fun e w' => e = .returned (.bool (Lib.validRune r)) ∧ w' = w := Any.utf8_ValidRune Tryd.lays119 r w
def Tryd.lays137_ren : Go.Shelf.Ren := ⟨fun | 137 => 31 | 217 => 44 | 266 => 55 | n => n, fun | 9 => 9 | 5 => 5 | 3 => 3 | n => n, fun | n => n⟩
theorem Tryd.lays137 : Go.Proofs.Lays.n137 Tryd.prog Tryd.lays137_ren := {
  mixed := by kernel_rfl
  f137 := Tryd.func31.trans (congrArg some (by kernel_rfl))
  f217 := Tryd.func44.trans (congrArg some (by kernel_rfl))
  f266 := Tryd.func55.trans (congrArg some (by kernel_rfl))
  t3 := Tryd.underlying3
  a3 := Tryd.isAgg3
  z3 := Tryd.sizeOf3
  v3 := Tryd.zeroValue3
  t5 := Tryd.underlying5
  a5 := Tryd.isAgg5
  z5 := Tryd.sizeOf5
  v5 := Tryd.zeroValue5
  t9 := Tryd.underlying9
  a9 := Tryd.isAgg9
  z9 := Tryd.sizeOf9
  v9 := Tryd.zeroValue9 }
open Go.RowKit in
theorem Tryd.strings_IndexByte (s : ByteArray) (c : Int) (w : World) :
    Calls Tryd.prog 31 #[.string s, .int .u8 c] w fun e w' => e = .returned (.int .i64 (Lib.indexByte s.data.toList c.toNat.toUInt8)) ∧ w' = w := Any.strings_IndexByte Tryd.lays137 s c w
def Tryd.lays145_ren : Go.Shelf.Ren := ⟨fun | 145 => 20 | 220 => 32 | 219 => 45 | 217 => 44 | 225 => 56 | 224 => 57 | 267 => 58 | 266 => 55 | 314 => 72 | n => n, fun | 9 => 9 | 4 => 4 | 59 => 62 | 3 => 3 | 5 => 5 | 46 => 76 | 146 => 110 | 51 => 109 | n => n, fun | 1 => 0 | n => n⟩
theorem Tryd.lays145 : Go.Proofs.Lays.n145 Tryd.prog Tryd.lays145_ren := {
  mixed := by kernel_rfl
  f145 := Tryd.func20.trans (congrArg some (by kernel_rfl))
  f217 := Tryd.func44.trans (congrArg some (by kernel_rfl))
  f219 := Tryd.func45.trans (congrArg some (by kernel_rfl))
  f220 := Tryd.func32.trans (congrArg some (by kernel_rfl))
  f224 := Tryd.func57.trans (congrArg some (by kernel_rfl))
  f225 := Tryd.func56.trans (congrArg some (by kernel_rfl))
  f266 := Tryd.func55.trans (congrArg some (by kernel_rfl))
  f267 := Tryd.func58.trans (congrArg some (by kernel_rfl))
  f314 := Tryd.func72.trans (congrArg some (by kernel_rfl))
  t3 := Tryd.underlying3
  a3 := Tryd.isAgg3
  z3 := Tryd.sizeOf3
  v3 := Tryd.zeroValue3
  t4 := Tryd.underlying4
  a4 := Tryd.isAgg4
  z4 := Tryd.sizeOf4
  v4 := Tryd.zeroValue4
  t5 := Tryd.underlying5
  a5 := Tryd.isAgg5
  z5 := Tryd.sizeOf5
  v5 := Tryd.zeroValue5
  t9 := Tryd.underlying9
  a9 := Tryd.isAgg9
  z9 := Tryd.sizeOf9
  v9 := Tryd.zeroValue9
  t46 := Tryd.underlying76
  a46 := Tryd.isAgg76
  z46 := Tryd.sizeOf76
  v46 := Tryd.zeroValue76
  t51 := Tryd.underlying109
  a51 := Tryd.isAgg109
  z51 := Tryd.sizeOf109
  v51 := Tryd.zeroValue109
  t59 := Tryd.underlying62
  a59 := Tryd.isAgg62
  z59 := Tryd.sizeOf62
  v59 := Tryd.zeroValue62
  t146 := Tryd.underlying110
  a146 := Tryd.isAgg110
  z146 := Tryd.sizeOf110
  v146 := Tryd.zeroValue110
  g1 := by kernel_rfl }
open Go.RowKit Go.Lib in
theorem Tryd.strings_Cut (s sep : ByteArray) (m : Int) (w : World) (hs : s.size < 4294967281) (hm : w.cell? ⟨0, 0, none⟩ = some (.int .i64 m)) :
    Calls Tryd.prog 20 #[.string s, .string sep] w fun e w' => e = .returned (.tuple #[.string ⟨(Lib.cut s.data.toList sep.data.toList).1.toArray⟩, .string ⟨(Lib.cut s.data.toList sep.data.toList).2.1.toArray⟩, .bool (Lib.cut s.data.toList sep.data.toList).2.2]) ∧ ∃ n, w' = w.drewN n := Any.strings_Cut Tryd.lays145 s sep m w hs hm
def Tryd.lays103_ren : Go.Shelf.Ren := ⟨fun | 103 => 33 | 210 => 46 | 206 => 59 | n => n, fun | 9 => 9 | 4 => 4 | 24 => 45 | 3 => 3 | n => n, fun | n => n⟩
theorem Tryd.lays103 : Go.Proofs.Lays.n103 Tryd.prog Tryd.lays103_ren := {
  mixed := by kernel_rfl
  f103 := Tryd.func33.trans (congrArg some (by kernel_rfl))
  f206 := Tryd.func59.trans (congrArg some (by kernel_rfl))
  f210 := Tryd.func46.trans (congrArg some (by kernel_rfl))
  t3 := Tryd.underlying3
  a3 := Tryd.isAgg3
  z3 := Tryd.sizeOf3
  v3 := Tryd.zeroValue3
  t4 := Tryd.underlying4
  a4 := Tryd.isAgg4
  z4 := Tryd.sizeOf4
  v4 := Tryd.zeroValue4
  t9 := Tryd.underlying9
  a9 := Tryd.isAgg9
  z9 := Tryd.sizeOf9
  v9 := Tryd.zeroValue9
  t24 := Tryd.underlying45
  a24 := Tryd.isAgg45
  z24 := Tryd.sizeOf45
  v24 := Tryd.zeroValue45 }
open Go.RowKit in
theorem Tryd.strings_CutPrefix (s p : ByteArray) (w : World) :
    Calls Tryd.prog 33 #[.string s, .string p] w fun e w' => e = .returned (.tuple #[.string ⟨(Lib.trimPrefix s.data.toList p.data.toList).toArray⟩, .bool (Lib.hasPrefix s.data.toList p.data.toList)]) ∧ w' = w := Any.strings_CutPrefix Tryd.lays103 s p w
def Tryd.lays146_ren : Go.Shelf.Ren := ⟨fun | 146 => 35 | 221 => 49 | 268 => 62 | 138 => 63 | 143 => 40 | 195 => 78 | 197 => 79 | 218 => 80 | 219 => 45 | 260 => 90 | 217 => 44 | 225 => 56 | 224 => 57 | 267 => 58 | 266 => 55 | 314 => 72 | n => n, fun | 9 => 9 | 31 => 24 | 3 => 3 | 4 => 4 | 0 => 0 | 105 => 118 | 21 => 21 | 5 => 5 | 46 => 76 | 119 => 136 | 139 => 139 | 138 => 138 | 146 => 110 | 51 => 109 | n => n, fun | 1 => 0 | 3 => 4 | 4 => 5 | n => n⟩
theorem Tryd.lays146 : Go.Proofs.Lays.n146 Tryd.prog Tryd.lays146_ren := {
  mixed := by kernel_rfl
  f138 := Tryd.func63.trans (congrArg some (by kernel_rfl))
  f143 := Tryd.func40.trans (congrArg some (by kernel_rfl))
  f146 := Tryd.func35.trans (congrArg some (by kernel_rfl))
  f195 := Tryd.func78.trans (congrArg some (by kernel_rfl))
  f197 := Tryd.func79.trans (congrArg some (by kernel_rfl))
  f217 := Tryd.func44.trans (congrArg some (by kernel_rfl))
  f218 := Tryd.func80.trans (congrArg some (by kernel_rfl))
  f219 := Tryd.func45.trans (congrArg some (by kernel_rfl))
  f221 := Tryd.func49.trans (congrArg some (by kernel_rfl))
  f224 := Tryd.func57.trans (congrArg some (by kernel_rfl))
  f225 := Tryd.func56.trans (congrArg some (by kernel_rfl))
  f260 := Tryd.func90.trans (congrArg some (by kernel_rfl))
  f266 := Tryd.func55.trans (congrArg some (by kernel_rfl))
  f267 := Tryd.func58.trans (congrArg some (by kernel_rfl))
  f268 := Tryd.func62.trans (congrArg some (by kernel_rfl))
  f314 := Tryd.func72.trans (congrArg some (by kernel_rfl))
  t0 := Tryd.underlying0
  a0 := Tryd.isAgg0
  z0 := Tryd.sizeOf0
  v0 := Tryd.zeroValue0
  t3 := Tryd.underlying3
  a3 := Tryd.isAgg3
  z3 := Tryd.sizeOf3
  v3 := Tryd.zeroValue3
  t4 := Tryd.underlying4
  a4 := Tryd.isAgg4
  z4 := Tryd.sizeOf4
  v4 := Tryd.zeroValue4
  t5 := Tryd.underlying5
  a5 := Tryd.isAgg5
  z5 := Tryd.sizeOf5
  v5 := Tryd.zeroValue5
  t9 := Tryd.underlying9
  a9 := Tryd.isAgg9
  z9 := Tryd.sizeOf9
  v9 := Tryd.zeroValue9
  t21 := Tryd.underlying21
  a21 := Tryd.isAgg21
  z21 := Tryd.sizeOf21
  v21 := Tryd.zeroValue21
  t31 := Tryd.underlying24
  a31 := Tryd.isAgg24
  z31 := Tryd.sizeOf24
  v31 := Tryd.zeroValue24
  t46 := Tryd.underlying76
  a46 := Tryd.isAgg76
  z46 := Tryd.sizeOf76
  v46 := Tryd.zeroValue76
  t51 := Tryd.underlying109
  a51 := Tryd.isAgg109
  z51 := Tryd.sizeOf109
  v51 := Tryd.zeroValue109
  t105 := Tryd.underlying118
  a105 := Tryd.isAgg118
  z105 := Tryd.sizeOf118
  v105 := Tryd.zeroValue118
  t119 := Tryd.underlying136
  a119 := Tryd.isAgg136
  z119 := Tryd.sizeOf136
  t138 := Tryd.underlying138
  a138 := Tryd.isAgg138
  z138 := Tryd.sizeOf138
  v138 := Tryd.zeroValue138
  t139 := Tryd.underlying139
  a139 := Tryd.isAgg139
  z139 := Tryd.sizeOf139
  v139 := Tryd.zeroValue139
  t146 := Tryd.underlying110
  a146 := Tryd.isAgg110
  z146 := Tryd.sizeOf110
  v146 := Tryd.zeroValue110
  g1 := by kernel_rfl
  g3 := by kernel_rfl
  g4 := by kernel_rfl }
open Go.RowKit Go.Lib in
theorem Tryd.strings_Split (s sep : ByteArray) (m : Int) (w : World) (hs : s.size < 4294967281) (hm : w.cell? ⟨0, 0, none⟩ = some (.int .i64 m)) (h1 : 1 ≤ sep.size) :
    Calls Tryd.prog 35 #[.string s, .string sep] w fun e w' =>
      e = .returned (.slice (some ⟨w.heap.size, 0, none⟩) (Lib.countB s sep + 1) (Lib.countB s sep + 1)) ∧ w' = w.alloc (.cells ((Lib.splitB sep 0 (Lib.countB s sep) s).map Value.string).toArray 9) := Any.strings_Split Tryd.lays146 (by kernel_rfl) s sep m w hs hm h1
def Tryd.lays144_ren : Go.Shelf.Ren := ⟨fun | 144 => 25 | 143 => 40 | 219 => 45 | 217 => 44 | 225 => 56 | 224 => 57 | 267 => 58 | 266 => 55 | 314 => 72 | n => n, fun | 9 => 9 | 4 => 4 | 3 => 3 | 5 => 5 | 46 => 76 | 146 => 110 | 51 => 109 | n => n, fun | 1 => 0 | n => n⟩
theorem Tryd.lays144 : Go.Proofs.Lays.n144 Tryd.prog Tryd.lays144_ren := {
  mixed := by kernel_rfl
  f143 := Tryd.func40.trans (congrArg some (by kernel_rfl))
  f144 := Tryd.func25.trans (congrArg some (by kernel_rfl))
  f217 := Tryd.func44.trans (congrArg some (by kernel_rfl))
  f219 := Tryd.func45.trans (congrArg some (by kernel_rfl))
  f224 := Tryd.func57.trans (congrArg some (by kernel_rfl))
  f225 := Tryd.func56.trans (congrArg some (by kernel_rfl))
  f266 := Tryd.func55.trans (congrArg some (by kernel_rfl))
  f267 := Tryd.func58.trans (congrArg some (by kernel_rfl))
  f314 := Tryd.func72.trans (congrArg some (by kernel_rfl))
  t3 := Tryd.underlying3
  a3 := Tryd.isAgg3
  z3 := Tryd.sizeOf3
  v3 := Tryd.zeroValue3
  t4 := Tryd.underlying4
  a4 := Tryd.isAgg4
  z4 := Tryd.sizeOf4
  v4 := Tryd.zeroValue4
  t5 := Tryd.underlying5
  a5 := Tryd.isAgg5
  z5 := Tryd.sizeOf5
  v5 := Tryd.zeroValue5
  t9 := Tryd.underlying9
  a9 := Tryd.isAgg9
  z9 := Tryd.sizeOf9
  v9 := Tryd.zeroValue9
  t46 := Tryd.underlying76
  a46 := Tryd.isAgg76
  z46 := Tryd.sizeOf76
  v46 := Tryd.zeroValue76
  t51 := Tryd.underlying109
  a51 := Tryd.isAgg109
  z51 := Tryd.sizeOf109
  v51 := Tryd.zeroValue109
  t146 := Tryd.underlying110
  a146 := Tryd.isAgg110
  z146 := Tryd.sizeOf110
  v146 := Tryd.zeroValue110
  g1 := by kernel_rfl }
open Go.RowKit Go.Lib in
theorem Tryd.strings_Contains (s sub : ByteArray) (m : Int) (w : World) (hs : s.size < 4294967281) (hm : w.cell? ⟨0, 0, none⟩ = some (.int .i64 m)) :
    Calls Tryd.prog 25 #[.string s, .string sub] w fun e w' => e = .returned (.bool (Lib.contains s.data.toList sub.data.toList)) ∧ w' = w := Any.strings_Contains Tryd.lays144 s sub m w hs hm
def Tryd.lays152_ren : Go.Shelf.Ren := ⟨fun | 152 => 64 | 137 => 31 | 119 => 81 | 224 => 57 | 225 => 56 | 217 => 44 | 266 => 55 | n => n, fun | 9 => 9 | 21 => 21 | 3 => 3 | 4 => 4 | 5 => 5 | 0 => 0 | 46 => 76 | n => n, fun | n => n⟩
theorem Tryd.lays152 : Go.Proofs.Lays.n152 Tryd.prog Tryd.lays152_ren := {
  mixed := by kernel_rfl
  f119 := Tryd.func81.trans (congrArg some (by kernel_rfl))
  f137 := Tryd.func31.trans (congrArg some (by kernel_rfl))
  f152 := Tryd.func64.trans (congrArg some (by kernel_rfl))
  f217 := Tryd.func44.trans (congrArg some (by kernel_rfl))
  f224 := Tryd.func57.trans (congrArg some (by kernel_rfl))
  f225 := Tryd.func56.trans (congrArg some (by kernel_rfl))
  f266 := Tryd.func55.trans (congrArg some (by kernel_rfl))
  t0 := Tryd.underlying0
  a0 := Tryd.isAgg0
  z0 := Tryd.sizeOf0
  v0 := Tryd.zeroValue0
  t3 := Tryd.underlying3
  a3 := Tryd.isAgg3
  z3 := Tryd.sizeOf3
  v3 := Tryd.zeroValue3
  t4 := Tryd.underlying4
  a4 := Tryd.isAgg4
  z4 := Tryd.sizeOf4
  v4 := Tryd.zeroValue4
  t5 := Tryd.underlying5
  a5 := Tryd.isAgg5
  z5 := Tryd.sizeOf5
  v5 := Tryd.zeroValue5
  t9 := Tryd.underlying9
  a9 := Tryd.isAgg9
  z9 := Tryd.sizeOf9
  v9 := Tryd.zeroValue9
  t21 := Tryd.underlying21
  a21 := Tryd.isAgg21
  z21 := Tryd.sizeOf21
  v21 := Tryd.zeroValue21
  t46 := Tryd.underlying76
  a46 := Tryd.isAgg76
  z46 := Tryd.sizeOf76
  v46 := Tryd.zeroValue76 }
open Go.RowKit Go.Lib in
theorem Tryd.strings_IndexRune_ascii (s : ByteArray) (r : Int) (w : World) (h0 : 0 ≤ r) (h1 : r < 128) :
    Calls Tryd.prog 64 #[.string s, .int .i32 r] w fun e w' => e = .returned (.int .i64 (Lib.indexByte s.data.toList r.toNat.toUInt8)) ∧ w' = w := Any.strings_IndexRune_ascii Tryd.lays152 s r w h0 h1
def Tryd.lays226_ren : Go.Shelf.Ren := ⟨fun | 226 => 65 | n => n, fun | 3 => 3 | 4 => 4 | n => n, fun | n => n⟩
theorem Tryd.lays226 : Go.Proofs.Lays.n226 Tryd.prog Tryd.lays226_ren := {
  mixed := by kernel_rfl
  f226 := Tryd.func65.trans (congrArg some (by kernel_rfl))
  t3 := Tryd.underlying3
  a3 := Tryd.isAgg3
  z3 := Tryd.sizeOf3
  v3 := Tryd.zeroValue3
  t4 := Tryd.underlying4
  a4 := Tryd.isAgg4
  z4 := Tryd.sizeOf4
  v4 := Tryd.zeroValue4 }
open Go.RowKit Go.Lib in
theorem Tryd.strings_shouldUseASCIISet (n : Int) (w : World) :
    Calls Tryd.prog 65 #[.int .i64 n] w fun e w' => e = .returned (.bool (decide (8 < n))) ∧ w' = w := Any.strings_shouldUseASCIISet Tryd.lays226 n w
def Tryd.lays153_ren : Go.Shelf.Ren := ⟨fun | 153 => 50 | 152 => 64 | 226 => 65 | 227 => 66 | 228 => 67 | 137 => 31 | 119 => 81 | 224 => 57 | 225 => 56 | 217 => 44 | 266 => 55 | n => n, fun | 9 => 9 | 3 => 3 | 4 => 4 | 5 => 5 | 21 => 21 | 117 => 100 | 116 => 99 | 0 => 0 | 46 => 76 | 124 => 121 | n => n, fun | n => n⟩
theorem Tryd.lays153 : Go.Proofs.Lays.n153 Tryd.prog Tryd.lays153_ren := {
  mixed := by kernel_rfl
  f119 := Tryd.func81.trans (congrArg some (by kernel_rfl))
  f137 := Tryd.func31.trans (congrArg some (by kernel_rfl))
  f152 := Tryd.func64.trans (congrArg some (by kernel_rfl))
  f153 := Tryd.func50.trans (congrArg some (by kernel_rfl))
  f217 := Tryd.func44.trans (congrArg some (by kernel_rfl))
  f224 := Tryd.func57.trans (congrArg some (by kernel_rfl))
  f225 := Tryd.func56.trans (congrArg some (by kernel_rfl))
  f226 := Tryd.func65.trans (congrArg some (by kernel_rfl))
  f227 := Tryd.func66.trans (congrArg some (by kernel_rfl))
  f228 := Tryd.func67.trans (congrArg some (by kernel_rfl))
  f266 := Tryd.func55.trans (congrArg some (by kernel_rfl))
  t0 := Tryd.underlying0
  a0 := Tryd.isAgg0
  z0 := Tryd.sizeOf0
  v0 := Tryd.zeroValue0
  t3 := Tryd.underlying3
  a3 := Tryd.isAgg3
  z3 := Tryd.sizeOf3
  v3 := Tryd.zeroValue3
  t4 := Tryd.underlying4
  a4 := Tryd.isAgg4
  z4 := Tryd.sizeOf4
  v4 := Tryd.zeroValue4
  t5 := Tryd.underlying5
  a5 := Tryd.isAgg5
  z5 := Tryd.sizeOf5
  v5 := Tryd.zeroValue5
  t9 := Tryd.underlying9
  a9 := Tryd.isAgg9
  z9 := Tryd.sizeOf9
  v9 := Tryd.zeroValue9
  t21 := Tryd.underlying21
  a21 := Tryd.isAgg21
  z21 := Tryd.sizeOf21
  v21 := Tryd.zeroValue21
  t46 := Tryd.underlying76
  a46 := Tryd.isAgg76
  z46 := Tryd.sizeOf76
  v46 := Tryd.zeroValue76
  t116 := Tryd.underlying99
  a116 := Tryd.isAgg99
  z116 := Tryd.sizeOf99
  t117 := Tryd.underlying100
  a117 := Tryd.isAgg100
  z117 := Tryd.sizeOf100
  v117 := Tryd.zeroValue100
  t124 := Tryd.underlying121
  a124 := Tryd.isAgg121
  z124 := Tryd.sizeOf121
  v124 := Tryd.zeroValue121 }
open Go.RowKit Go.Lib in
theorem Tryd.strings_IndexAny_long (hv116 : ∀ w, (zeroValue 99).run Tryd.prog w = .ok (.agg (Array.replicate 256 (.bool false))) w) (s chars : ByteArray) (w : World) (h2 : 2 ≤ chars.size) (h8 : 8 < s.size) (hs : s.size < 4294967281) (hcs : chars.size < 4294967281) (hascii : ∀ (j : Nat) b, chars.data.toList[j]? = some b → b.toNat < 128) :
    Calls Tryd.prog 50 #[.string s, .string chars] w fun e w' => e = .returned (.int .i64 (Lib.indexAny s.data.toList chars.data.toList)) ∧ w' = ((w.alloc (.cells (Lib.setCells chars.data.toList) 99)).alloc (.cells (Lib.setCells chars.data.toList) 99)) := Any.strings_IndexAny_long Tryd.lays153 hv116 (by kernel_rfl) s chars w h2 h8 hs hcs hascii
def Tryd.laysM171_ren : Go.Shelf.Ren := ⟨fun | 171 => 26 | 243 => 41 | 246 => 52 | 283 => 68 | 284 => 69 | 285 => 70 | 286 => 71 | 129 => 83 | 317 => 82 | 318 => 84 | 319 => 85 | 320 => 86 | 337 => 91 | 338 => 92 | n => n, fun | 3 => 3 | 9 => 9 | 2 => 2 | 4 => 4 | 171 => 103 | 0 => 0 | 53 => 104 | 37 => 27 | 5 => 5 | 173 => 107 | 212 => 123 | 51 => 109 | 20 => 20 | 213 => 124 | 46 => 76 | 232 => 140 | 233 => 141 | n => n, fun | 17 => 1 | 18 => 6 | 19 => 7 | n => n⟩
theorem Tryd.laysM171 : Go.Proofs.LaysM.n171 Tryd.prog Tryd.laysM171_ren := {
  mixed := by kernel_rfl
  f129 := Tryd.func83.trans (congrArg some (by kernel_rfl))
  f171 := Tryd.func26.trans (congrArg some (by kernel_rfl))
  f243 := Tryd.func41.trans (congrArg some (by kernel_rfl))
  f246 := Tryd.func52.trans (congrArg some (by kernel_rfl))
  f283 := Tryd.func68.trans (congrArg some (by kernel_rfl))
  f284 := Tryd.func69.trans (congrArg some (by kernel_rfl))
  f285 := Tryd.func70.trans (congrArg some (by kernel_rfl))
  f286 := Tryd.func71.trans (congrArg some (by kernel_rfl))
  f317 := Tryd.func82.trans (congrArg some (by kernel_rfl))
  f318 := Tryd.func84.trans (congrArg some (by kernel_rfl))
  f319 := Tryd.func85.trans (congrArg some (by kernel_rfl))
  f320 := Tryd.func86.trans (congrArg some (by kernel_rfl))
  f337 := Tryd.func91.trans (congrArg some (by kernel_rfl))
  f338 := Tryd.func92.trans (congrArg some (by kernel_rfl))
  t0 := Tryd.underlying0
  a0 := Tryd.isAgg0
  z0 := Tryd.sizeOf0
  v0 := Tryd.zeroValue0
  t2 := Tryd.underlying2
  a2 := Tryd.isAgg2
  z2 := Tryd.sizeOf2
  v2 := Tryd.zeroValue2
  t3 := Tryd.underlying3
  a3 := Tryd.isAgg3
  z3 := Tryd.sizeOf3
  v3 := Tryd.zeroValue3
  t4 := Tryd.underlying4
  a4 := Tryd.isAgg4
  z4 := Tryd.sizeOf4
  v4 := Tryd.zeroValue4
  t5 := Tryd.underlying5
  a5 := Tryd.isAgg5
  z5 := Tryd.sizeOf5
  v5 := Tryd.zeroValue5
  t9 := Tryd.underlying9
  a9 := Tryd.isAgg9
  z9 := Tryd.sizeOf9
  v9 := Tryd.zeroValue9
  t20 := Tryd.underlying20
  a20 := Tryd.isAgg20
  z20 := Tryd.sizeOf20
  v20 := Tryd.zeroValue20
  t37 := Tryd.underlying27
  a37 := Tryd.isAgg27
  z37 := Tryd.sizeOf27
  v37 := Tryd.zeroValue27
  t46 := Tryd.underlying76
  a46 := Tryd.isAgg76
  z46 := Tryd.sizeOf76
  v46 := Tryd.zeroValue76
  t51 := Tryd.underlying109
  a51 := Tryd.isAgg109
  z51 := Tryd.sizeOf109
  v51 := Tryd.zeroValue109
  t53 := Tryd.underlying104
  a53 := Tryd.isAgg104
  z53 := Tryd.sizeOf104
  v53 := Tryd.zeroValue104
  t171 := Tryd.underlying103
  a171 := Tryd.isAgg103
  z171 := Tryd.sizeOf103
  v171 := Tryd.zeroValue103
  t173 := Tryd.underlying107
  a173 := Tryd.isAgg107
  z173 := Tryd.sizeOf107
  v173 := Tryd.zeroValue107
  t212 := Tryd.underlying123
  a212 := Tryd.isAgg123
  z212 := Tryd.sizeOf123
  v212 := Tryd.zeroValue123
  t213 := Tryd.underlying124
  a213 := Tryd.isAgg124
  z213 := Tryd.sizeOf124
  t232 := Tryd.underlying140
  a232 := Tryd.isAgg140
  z232 := Tryd.sizeOf140
  v232 := Tryd.zeroValue140
  t233 := Tryd.underlying141
  a233 := Tryd.isAgg141
  z233 := Tryd.sizeOf141
  v233 := Tryd.zeroValue141
  g17 := by kernel_rfl
  g18 := by kernel_rfl
  g19 := by kernel_rfl
  i0 := by kernel_rfl
  i2 := by kernel_rfl
  i3 := by kernel_rfl
  i4 := by kernel_rfl
  i5 := by kernel_rfl
  i9 := by kernel_rfl
  i20 := by kernel_rfl
  i37 := by kernel_rfl
  i46 := by kernel_rfl
  i51 := by kernel_rfl
  i53 := by kernel_rfl
  i171 := by kernel_rfl
  i173 := by kernel_rfl
  i212 := by kernel_rfl
  i232 := by kernel_rfl
  i233 := by kernel_rfl
  m17 := by kernel_rfl
  m18 := by kernel_rfl
  m19 := by kernel_rfl }
open Go.RowKit Go.Sort Go.Lib in
theorem Tryd.strconv_Itoa (n : Int) (h0 : -9223372036854775808 ≤ n) (h1 : n ≤ 9223372036854775807) (w : World) (htab : Lib.TabIs Tryd.prog w "internal/strconv.uint64pow10" .u64 Lib.pow10Tab) :
    Calls Tryd.prog 26 #[.int .i64 n] w fun e w' => e = .returned (.string ⟨(Lib.itoa n).toArray⟩) ∧ ∃ k os, w' = grow (w.drewN k) os := Any.strconv_Itoa Tryd.laysM171 n h0 h1 w htab
def Tryd.laysC172_ren : Go.Shelf.Ren := ⟨fun | 172 => 47 | 244 => 60 | 245 => 61 | 247 => 73 | 279 => 74 | 280 => 75 | 281 => 76 | 282 => 77 | 287 => 87 | 316 => 88 | 171 => 26 | 205 => 89 | 321 => 93 | 322 => 94 | 243 => 41 | 246 => 52 | 283 => 68 | 284 => 69 | 285 => 70 | 286 => 71 | 129 => 83 | 317 => 82 | 318 => 84 | 319 => 85 | 320 => 86 | 337 => 91 | 338 => 92 | n => n, fun | 9 => 9 | 3 => 3 | 75 => 72 | 76 => 73 | 4 => 4 | 5 => 5 | 167 => 112 | 37 => 27 | 0 => 0 | 85 => 113 | 2 => 2 | 168 => 115 | 53 => 104 | 175 => 126 | 46 => 76 | 210 => 129 | 127 => 86 | 145 => 135 | 143 => 133 | 21 => 21 | 171 => 103 | 173 => 107 | 212 => 123 | 51 => 109 | 20 => 20 | 213 => 124 | 232 => 140 | 233 => 141 | 80 => 61 | n => n, fun | 15 => 2 | 16 => 3 | 17 => 1 | 18 => 6 | 19 => 7 | n => n⟩
theorem Tryd.laysC172 : Go.Proofs.LaysC.n172 Tryd.prog Tryd.laysC172_ren := {
  mixed := by kernel_rfl
  f129 := Tryd.func83.trans (congrArg some (by kernel_rfl))
  f171 := Tryd.func26.trans (congrArg some (by kernel_rfl))
  f172 := Tryd.func47.trans (congrArg some (by kernel_rfl))
  f205 := Tryd.func89.trans (congrArg some (by kernel_rfl))
  f243 := Tryd.func41.trans (congrArg some (by kernel_rfl))
  f244 := Tryd.func60.trans (congrArg some (by kernel_rfl))
  f245 := Tryd.func61.trans (congrArg some (by kernel_rfl))
  f246 := Tryd.func52.trans (congrArg some (by kernel_rfl))
  f247 := Tryd.func73.trans (congrArg some (by kernel_rfl))
  f279 := Tryd.func74.trans (congrArg some (by kernel_rfl))
  f280 := Tryd.func75.trans (congrArg some (by kernel_rfl))
  f281 := Tryd.func76.trans (congrArg some (by kernel_rfl))
  f282 := Tryd.func77.trans (congrArg some (by kernel_rfl))
  f283 := Tryd.func68.trans (congrArg some (by kernel_rfl))
  f284 := Tryd.func69.trans (congrArg some (by kernel_rfl))
  f285 := Tryd.func70.trans (congrArg some (by kernel_rfl))
  f286 := Tryd.func71.trans (congrArg some (by kernel_rfl))
  f287 := Tryd.func87.trans (congrArg some (by kernel_rfl))
  f316 := Tryd.func88.trans (congrArg some (by kernel_rfl))
  f317 := Tryd.func82.trans (congrArg some (by kernel_rfl))
  f318 := Tryd.func84.trans (congrArg some (by kernel_rfl))
  f319 := Tryd.func85.trans (congrArg some (by kernel_rfl))
  f320 := Tryd.func86.trans (congrArg some (by kernel_rfl))
  f321 := Tryd.func93.trans (congrArg some (by kernel_rfl))
  f322 := Tryd.func94.trans (congrArg some (by kernel_rfl))
  f337 := Tryd.func91.trans (congrArg some (by kernel_rfl))
  f338 := Tryd.func92.trans (congrArg some (by kernel_rfl))
  t0 := Tryd.underlying0
  a0 := Tryd.isAgg0
  z0 := Tryd.sizeOf0
  v0 := Tryd.zeroValue0
  t2 := Tryd.underlying2
  a2 := Tryd.isAgg2
  z2 := Tryd.sizeOf2
  v2 := Tryd.zeroValue2
  t3 := Tryd.underlying3
  a3 := Tryd.isAgg3
  z3 := Tryd.sizeOf3
  v3 := Tryd.zeroValue3
  t4 := Tryd.underlying4
  a4 := Tryd.isAgg4
  z4 := Tryd.sizeOf4
  v4 := Tryd.zeroValue4
  t5 := Tryd.underlying5
  a5 := Tryd.isAgg5
  z5 := Tryd.sizeOf5
  v5 := Tryd.zeroValue5
  t9 := Tryd.underlying9
  a9 := Tryd.isAgg9
  z9 := Tryd.sizeOf9
  v9 := Tryd.zeroValue9
  t20 := Tryd.underlying20
  a20 := Tryd.isAgg20
  z20 := Tryd.sizeOf20
  v20 := Tryd.zeroValue20
  t21 := Tryd.underlying21
  a21 := Tryd.isAgg21
  z21 := Tryd.sizeOf21
  v21 := Tryd.zeroValue21
  t37 := Tryd.underlying27
  a37 := Tryd.isAgg27
  z37 := Tryd.sizeOf27
  v37 := Tryd.zeroValue27
  t46 := Tryd.underlying76
  a46 := Tryd.isAgg76
  z46 := Tryd.sizeOf76
  v46 := Tryd.zeroValue76
  t51 := Tryd.underlying109
  a51 := Tryd.isAgg109
  z51 := Tryd.sizeOf109
  v51 := Tryd.zeroValue109
  t53 := Tryd.underlying104
  a53 := Tryd.isAgg104
  z53 := Tryd.sizeOf104
  v53 := Tryd.zeroValue104
  t75 := Tryd.underlying72
  a75 := Tryd.isAgg72
  z75 := Tryd.sizeOf72
  v75 := Tryd.zeroValue72
  t76 := Tryd.underlying73
  a76 := Tryd.isAgg73
  z76 := Tryd.sizeOf73
  v76 := Tryd.zeroValue73
  t85 := Tryd.underlying113
  a85 := Tryd.isAgg113
  z85 := Tryd.sizeOf113
  v85 := Tryd.zeroValue113
  t127 := Tryd.underlying86
  a127 := Tryd.isAgg86
  z127 := Tryd.sizeOf86
  v127 := Tryd.zeroValue86
  t143 := Tryd.underlying133
  a143 := Tryd.isAgg133
  z143 := Tryd.sizeOf133
  v143 := Tryd.zeroValue133
  t145 := Tryd.underlying135
  a145 := Tryd.isAgg135
  z145 := Tryd.sizeOf135
  v145 := Tryd.zeroValue135
  t167 := Tryd.underlying112
  a167 := Tryd.isAgg112
  z167 := Tryd.sizeOf112
  v167 := Tryd.zeroValue112
  t168 := Tryd.underlying115
  a168 := Tryd.isAgg115
  z168 := Tryd.sizeOf115
  v168 := Tryd.zeroValue115
  t171 := Tryd.underlying103
  a171 := Tryd.isAgg103
  z171 := Tryd.sizeOf103
  v171 := Tryd.zeroValue103
  t173 := Tryd.underlying107
  a173 := Tryd.isAgg107
  z173 := Tryd.sizeOf107
  v173 := Tryd.zeroValue107
  t175 := Tryd.underlying126
  a175 := Tryd.isAgg126
  z175 := Tryd.sizeOf126
  v175 := Tryd.zeroValue126
  t210 := Tryd.underlying129
  a210 := Tryd.isAgg129
  z210 := Tryd.sizeOf129
  v210 := Tryd.zeroValue129
  t212 := Tryd.underlying123
  a212 := Tryd.isAgg123
  z212 := Tryd.sizeOf123
  v212 := Tryd.zeroValue123
  t213 := Tryd.underlying124
  a213 := Tryd.isAgg124
  z213 := Tryd.sizeOf124
  t232 := Tryd.underlying140
  a232 := Tryd.isAgg140
  z232 := Tryd.sizeOf140
  v232 := Tryd.zeroValue140
  t233 := Tryd.underlying141
  a233 := Tryd.isAgg141
  z233 := Tryd.sizeOf141
  v233 := Tryd.zeroValue141
  g15 := by kernel_rfl
  g16 := by kernel_rfl
  g17 := by kernel_rfl
  g18 := by kernel_rfl
  g19 := by kernel_rfl
  t80 := Tryd.underlying61
  a80 := Tryd.isAgg61
  z80 := Tryd.sizeOf61
  v80 := Tryd.zeroValue61
  i0 := by kernel_rfl
  i2 := by kernel_rfl
  i3 := by kernel_rfl
  i4 := by kernel_rfl
  i5 := by kernel_rfl
  i9 := by kernel_rfl
  i20 := by kernel_rfl
  i21 := by kernel_rfl
  i37 := by kernel_rfl
  i46 := by kernel_rfl
  i51 := by kernel_rfl
  i53 := by kernel_rfl
  i75 := by kernel_rfl
  i76 := by kernel_rfl
  i80 := by kernel_rfl
  i85 := by kernel_rfl
  i127 := by kernel_rfl
  i143 := by kernel_rfl
  i145 := by kernel_rfl
  i167 := by kernel_rfl
  i168 := by kernel_rfl
  i171 := by kernel_rfl
  i173 := by kernel_rfl
  i175 := by kernel_rfl
  i210 := by kernel_rfl
  i212 := by kernel_rfl
  i232 := by kernel_rfl
  i233 := by kernel_rfl
  m15 := by kernel_rfl
  m16 := by kernel_rfl
  m17 := by kernel_rfl
  m18 := by kernel_rfl
  m19 := by kernel_rfl
  c0 := by kernel_rfl
  c2 := by kernel_rfl
  c3 := by kernel_rfl
  c4 := by kernel_rfl
  c5 := by kernel_rfl
  c9 := by kernel_rfl
  c20 := by kernel_rfl
  c21 := by kernel_rfl
  c37 := by kernel_rfl
  c46 := by kernel_rfl
  c51 := by kernel_rfl
  c53 := by kernel_rfl
  c75 := by kernel_rfl
  c76 := by kernel_rfl
  c80 := by kernel_rfl
  c85 := by kernel_rfl
  c127 := by kernel_rfl
  c143 := by kernel_rfl
  c145 := by kernel_rfl
  c167 := by kernel_rfl
  c168 := by kernel_rfl
  c171 := by kernel_rfl
  c173 := by kernel_rfl
  c175 := by kernel_rfl
  c210 := by kernel_rfl
  c212 := by kernel_rfl
  c213 := by kernel_rfl
  c232 := by kernel_rfl
  c233 := by kernel_rfl }
open Go.RowKit in
theorem Tryd.strconv_Atoi_ok (s : ByteArray) (hmax : s.size ≤ 9223372036854775806) (v : Int) (h : Lib.atoiAll s.data.toList = .ok v) (w : World) :
    Calls Tryd.prog 47 #[.string s] w fun e w' => e = .returned (.tuple #[.int .i64 v, .nilIface]) ∧ (w' = w ∨ ∃ t, w' = Lib.bytesWorld w 5 t) := Any.strconv_Atoi_ok Tryd.laysC172 s hmax v h w
open Go.RowKit in
theorem Tryd.strconv_Atoi_syntax (s : ByteArray) (hlim : s.size ≤ 281474976710656) (h : Lib.atoiAll s.data.toList = Lib.atoiAll []) (ev : Value) (w : World) (hv : w.cell? ⟨2, 0, none⟩ = some ev) (hev : ev = .nilIface ∨ ∃ te pe, ev = .iface te pe) :
    Calls Tryd.prog 47 #[.string s] w fun e w' => ∃ N, e = .returned (.tuple #[.int .i64 (0), .iface 115 (.pointer (some ⟨N, 0, none⟩))]) ∧ w.heap.size ≤ N ∧ w'.heap[N]? = some (.cells #[.string ⟨#[65, 116, 111, 105]⟩, .string s, ev] 129 (0, 0)) ∧ Below w.heap.size w w' := Any.strconv_Atoi_syntax Tryd.laysC172 s hlim (h.trans rfl) ev w hv hev
open Go.RowKit in
theorem Tryd.strconv_Atoi_range (s : ByteArray) (hlim : s.size ≤ 281474976710656) (h : Lib.atoiAll s.data.toList = .range) (ev : Value) (w : World) (hv : w.cell? ⟨3, 0, none⟩ = some ev) (hev : ev = .nilIface ∨ ∃ te pe, ev = .iface te pe) :
    Calls Tryd.prog 47 #[.string s] w fun e w' => ∃ N, e = .returned (.tuple #[.int .i64 (Lib.atoiSat s.data.toList), .iface 115 (.pointer (some ⟨N, 0, none⟩))]) ∧ w.heap.size ≤ N ∧ w'.heap[N]? = some (.cells #[.string ⟨#[65, 116, 111, 105]⟩, .string s, ev] 129 (0, 0)) ∧ Below w.heap.size w w' := Any.strconv_Atoi_range Tryd.laysC172 s hlim h ev w hv hev
end Go.Proofs.YtfabdnpeohpgnaaDoor
namespace Go.Proofs.YtfabdnpeohpgnaaDoor
set_option linter.all false
open Go.RowKit
open Go.Lib (index hasPrefix trimPrefix cut indexAny)
theorem of_bs (s : ByteArray) : (⟨s.data.toList.toArray⟩ : ByteArray) = s := by cases s; rfl
theorem Vl.tup2 {w : World} {S : Nat → Prop} {ρ : Rho} {x y : AV} {u v : Value} (h : Vl1 w S ρ x u) (k : Vl1 w S ρ y v) : Vl w S ρ (.tup [x, y]) (.tuple #[u, v]) :=
  ⟨[u, v], rfl, rfl, fun i hi => by
    match i, hi with
    | 0, _ => exact h
    | 1, _ => exact k⟩
theorem Vl.tup3 {w : World} {S : Nat → Prop} {ρ : Rho} {x y z : AV} {u v t : Value} (h : Vl1 w S ρ x u) (k : Vl1 w S ρ y v) (m : Vl1 w S ρ z t) : Vl w S ρ (.tup [x, y, z]) (.tuple #[u, v, t]) :=
  ⟨[u, v, t], rfl, rfl, fun i hi => by
    match i, hi with
    | 0, _ => exact h
    | 1, _ => exact k
    | 2, _ => exact m⟩
def unS : AV → List UInt8
  | .str l => l
  | _ => []
theorem unS_map (ps : List (List UInt8)) : (ps.map AV.str).map unS = ps := by rw [List.map_map]; simp [unS, Function.comp_def]
end Go.Proofs.YtfabdnpeohpgnaaDoor
namespace Go.Proofs.YtfabdnpeohpgnaaDoor
set_option linter.all false
open Go.RowKit
def bwbS : Spec := fun xs hp => match xs, hp with
  | [.ref 0 0 0, .int .u8 c], [.cells T [(1, X), (1, .own 1 v)], .row e 1 v' bs] => if selfX X = true ∧ v = v' ∧ e = 5 then some ⟨.con .nilIface, [.cells T [(1, .ref 0 0 0), (1, .own 1 (v + 1))], .row 5 1 (v + 1) (bs ++ [.int .u8 c])], T = 70 ∧ bytesOk (bs.length + 1)⟩ else none
  | _, _ => none
theorem bwb_ok : FnOk Tryd.prog 28 bwbS := by
  refine fn_slim2 Tryd.func28 s_bwb (Φ := phiL [(42, [], copyCheckS)]) (phi_cons copyCheckA_ok (by kernel_rfl) phi_nil) ?_
  intro xs hp r hs hp'
  unfold bwbS at hs
  split at hs
  · rename_i c T X v e v' bs
    split at hs
    · rename_i hX
      obtain ⟨hX, rfl, rfl⟩ := hX
      injection hs with hs; subst hs
      obtain ⟨rfl, p2⟩ := hp'
      refine ⟨len_le (by kernel_rfl), ?_⟩
      unfold bytesOk at p2
      have hlen : (bs ++ [AV.int .u8 c]).length = bs.length + 1 := by simp
      rcases selfX_or hX with rfl | rfl
      · simp only [c_bwb, r_bwb, copyCheckS, hX, go_sem, Nat.reduceDiv, Nat.reduceMod, ↓reduceIte, Nat.reduceEqDiff, Nat.reduceBEq, Nat.reduceSub, Nat.reduceLT, Nat.reduceAdd, Nat.reduceLeDiff, reduceCtorEq, Int.reduceEq, Int.reduceNe, Int.reduceLT, Int.reduceLE, Int.reduceToNat]
        refine ⟨by rw [hlen]; (first | omega | (simp only [lenOk, bytesOk, inI, IntKind.bits, List.length_append, Bs_len, List.length_cons, List.length_nil, List.length_map, List.length_take, List.length_drop, List.length_replicate]; omega)), by rw [hlen]; (first | omega | (simp only [lenOk, bytesOk, inI, IntKind.bits, List.length_append, Bs_len, List.length_cons, List.length_nil, List.length_map, List.length_take, List.length_drop, List.length_replicate]; omega))⟩
      · simp only [c_bwb, r_bwb, copyCheckS, hX, go_sem, Nat.reduceDiv, Nat.reduceMod, ↓reduceIte, Nat.reduceEqDiff, Nat.reduceBEq, Nat.reduceSub, Nat.reduceLT, Nat.reduceAdd, Nat.reduceLeDiff, reduceCtorEq, Int.reduceEq, Int.reduceNe, Int.reduceLT, Int.reduceLE, Int.reduceToNat]
        refine ⟨by rw [hlen]; (first | omega | (simp only [lenOk, bytesOk, inI, IntKind.bits, List.length_append, Bs_len, List.length_cons, List.length_nil, List.length_map, List.length_take, List.length_drop, List.length_replicate]; omega)), by rw [hlen]; (first | omega | (simp only [lenOk, bytesOk, inI, IntKind.bits, List.length_append, Bs_len, List.length_cons, List.length_nil, List.length_map, List.length_take, List.length_drop, List.length_replicate]; omega))⟩
    · cases hs
  · cases hs
def joinW (sep : List UInt8) : List (List UInt8) → List UInt8
  | [] => []
  | x :: xs => x ++ xs.flatMap (sep ++ ·)
def sumL (xs : List (List UInt8)) : Nat := (xs.map List.length).sum
def joinS : Spec := fun xs hp => match xs, hp with
  | [.sl kq ps, .str sep], [] => some ⟨.str (joinW sep (ps.map unS)), [], ps = (ps.map unS).map AV.str ∧ (kq = 1 ∨ ps = []) ∧ ps.length ≤ 1000000 ∧ sep.length ≤ 1000000 ∧ sumL (ps.map unS) ≤ 1000000000⟩
  | _, _ => none
theorem sum_take (xs : List (List UInt8)) {i : Nat} (h : i < xs.length) : sumL (xs.take (i + 1)) = sumL (xs.take i) + xs[i].length := by
  unfold sumL
  rw [List.take_add_one, List.getElem?_eq_getElem h, Option.toList_some, List.map_append, List.sum_append]; simp
theorem sum_take_le (xs : List (List UInt8)) (i : Nat) : sumL (xs.take i) ≤ sumL xs := by
  conv => rhs; rw [← List.take_append_drop i xs]
  unfold sumL
  rw [List.map_append, List.sum_append]; omega
theorem flat_sep_len (sep : List UInt8) (xs : List (List UInt8)) : (xs.flatMap (sep ++ ·)).length = sep.length * xs.length + sumL xs := by
  induction xs with
  | nil => simp [sumL]
  | cons x xs ih =>
    rw [List.flatMap_cons, List.length_append, ih, List.length_append, List.length_cons, Nat.mul_add]
    simp only [sumL, List.map_cons, List.sum_cons]; omega
theorem quo_big {k : Nat} (h0 : 0 < k) (h1 : k ≤ 1000000) : (9000000000000 : Int) ≤ (9223372036854775807 : Int).tdiv (k : Int) := by
  rw [Int.tdiv_eq_ediv_of_nonneg (by decide)]
  exact Int.le_ediv_of_mul_le (by omega) (by omega)
def phiJ : Phi := phiL [(30, [], growS), (27, [], bwsS), (29, [], bstrS)]
theorem phiJ_ok : PhiOk Tryd.prog phiJ := phi_cons grow_ok (by kernel_rfl) (phi_cons bws_ok (by kernel_rfl) (phi_cons bstr_ok (by kernel_rfl) phi_nil))
theorem phiJ_1 : phiJ 30 = some ([], growS) := rfl
theorem phiJ_2 : phiJ 27 = some ([], bwsS) := rfl
theorem phiJ_3 : phiJ 29 = some ([], bstrS) := rfl
set_option maxHeartbeats 2000000 in
theorem join_core {sep x : List UInt8} {ys : List (List UInt8)} (n0 : Int) (h0 : 0 ≤ n0) (h1 : n0 ≤ 1000000000000) (hl : (x :: ys).length ≤ 1000000) (hsp : sep.length ≤ 1000000) (hsm : sumL (x :: ys) ≤ 1000000000) (pr : Prop) (s0 : S2)
    (hk : ent [] [0, 1, 5, 39, 40, 41] [] (toS s0) = some ⟨[(0, .sl 1 ((x :: ys).map AV.str)), (1, .str sep), (5, .int .i64 n0), (39, .sl 1 ((x :: ys).map AV.str)), (40, .int .i64 ((x :: ys).length : Int)), (41, .int .i64 ((0 : Nat) : Int))], []⟩) :
    loopQ2 0 (awp2 phiJ 0 b_sjoin_0) (inQ2 1 (thenQ2 (awp2 phiJ 0 t_sjoin_1 (retQ2 r_sjoin 0 ⟨.str (joinW sep (x :: ys)), [], pr⟩)) (retQ2 r_sjoin 0 ⟨.str (joinW sep (x :: ys)), [], pr⟩))) s0 := by
  have hjw : joinW sep (x :: ys) = x ++ ys.flatMap (sep ++ ·) := rfl
  have hsx : sumL (x :: ys) = x.length + sumL ys := by simp [sumL]
  have hyl : (x :: ys).length = ys.length + 1 := rfl
  have hd1 : (((x :: ys).map AV.str).take (x :: ys).length).drop 1 = ys.map AV.str := by rw [List.take_of_length_le (by simp)]; rfl
  have hg0 : ((x :: ys).map AV.str).getD 0 (AV.str []) = AV.str x := rfl
  have hml : ((x :: ys).map AV.str).length = (x :: ys).length := List.length_map ..
  generalize hzs : x :: ys = zs at *
  refine loop2P [] [0, 1, 5, 39, 40, 41] [] (fun q : Nat × Int => ⟨[(0, .sl 1 (zs.map AV.str)), (1, .str sep), (5, .int .i64 q.2), (39, .sl 1 (zs.map AV.str)), (40, .int .i64 (zs.length : Int)), (41, .int .i64 (q.1 : Int))], []⟩)
    (fun q => q.1 ≤ zs.length ∧ 0 ≤ q.2 ∧ q.2 ≤ 1000000000000 + (sumL (zs.take q.1) : Int)) (fun q => zs.length - q.1) (0, n0) hk ⟨Nat.zero_le _, h0, by simp only [List.take_zero, sumL, List.map_nil, List.sum_nil]; omega⟩ ⟨rfl, by rfl⟩ (fun q hq R hR => ?_)
  obtain ⟨i, n⟩ := q
  simp only at hq hR ⊢
  obtain ⟨i1, i2, i3⟩ := hq
  have hst := sum_take_le zs i
  by_cases hil : i < zs.length
  · have c1 : decide ((i : Int) < (zs.length : Int)) = true := decide_eq_true (by omega)
    have hget := getD_map AV.str zs [] (AV.str []) hil
    have hga : zs.getD i [] = zs[i] := by simp [List.getD_eq_getElem?_getD, List.getElem?_eq_getElem hil]
    have hsk := sum_take zs hil
    have hsl := sum_take_le zs (i + 1)
    have c2 : decide ((9223372036854775807 : Int) - n < (zs[i].length : Int)) = false := decide_eq_false (by omega)
    simp only [b_sjoin_0, c1, c2, hget, hga, Int.toNat_natCast, hml, go_sem, Nat.reduceDiv, Nat.reduceMod, ↓reduceIte, Nat.reduceEqDiff, Nat.reduceBEq, Nat.reduceSub, Nat.reduceLT, Nat.reduceAdd, Nat.reduceLeDiff, reduceCtorEq, Int.reduceEq, Int.reduceNe, Int.reduceLT, Int.reduceLE, Int.reduceToNat]
    refine ⟨⟨by omega, by omega⟩, ⟨by omega, by omega⟩, ⟨by omega, by omega⟩, ⟨by omega, by omega⟩, hR _ (i + 1, n + (zs[i].length : Int)) ⟨hil, by simp only; omega, by simp only; omega⟩ (by simp only; omega) rfl⟩
  · have c1 : decide ((i : Int) < (zs.length : Int)) = false := decide_eq_false (by omega)
    have hX0 : selfX (.con (.pointer none)) = true := rfl
    have hX1 : selfX (.ref 0 0 0) = true := rfl
    have hz0 : 0 < zs.length := by omega
    simp only [b_sjoin_0, t_sjoin_1, c1, phiJ_1, phiJ_2, growS, bwsS, hX0, hX1, hg0, hd1, hml, if_true, go_sem, Nat.reduceDiv, Nat.reduceMod, ↓reduceIte, Nat.reduceEqDiff, Nat.reduceBEq, Nat.reduceSub, Nat.reduceLT, Nat.reduceAdd, Nat.reduceLeDiff, reduceCtorEq, Int.reduceEq, Int.reduceNe, Int.reduceLT, Int.reduceLE, Int.reduceToNat]
    have hfl := flat_sep_len sep ys
    have hsy : sep.length * ys.length ≤ 1000000 * 1000000 := Nat.mul_le_mul hsp (by omega)
    refine ⟨⟨by omega, by omega⟩, by omega, by (first | omega | (simp only [lenOk, bytesOk, inI, IntKind.bits, List.length_append, Bs_len, List.length_cons, List.length_nil, List.length_map, List.length_take, List.length_drop, List.length_replicate]; omega)), ⟨by omega, by omega⟩, ?_⟩
    clear hR R
    refine loop2P [] [1, 8, 63, 64, 65] [0, 1] (fun j : Nat => ⟨[(1, .str sep), (8, .ref 0 0 0), (63, .sl 1 (ys.map AV.str)), (64, .int .i64 (ys.length : Int)), (65, .int .i64 (j : Int))], [.cells 70 [(1, .ref 0 0 0), (1, .own 1 (1 + 2 * j))], .row 5 1 (1 + 2 * j) (Bs (x ++ (ys.take j).flatMap (sep ++ ·)))]⟩)
      (fun j => j ≤ ys.length) (fun j => ys.length - j) 0 ?_ (Nat.zero_le _) ⟨rfl, by rfl⟩ (fun j hj R hR => ?_)
    · simp only [List.take_zero, List.flatMap_nil, List.append_nil]
      rfl
    by_cases hjl : j < ys.length
    · have d1 : decide ((j : Int) < (ys.length : Int)) = true := decide_eq_true (by omega)
      have hgetj := getD_map AV.str ys [] (AV.str []) hjl
      have hgaj : ys.getD j [] = ys[j] := by simp [List.getD_eq_getElem?_getD, List.getElem?_eq_getElem hjl]
      have hlt := flatMap_take_le (sep ++ ·) ys (j + 1)
      have hft := flatMap_take (sep ++ ·) ys hjl
      rw [← hft] at hlt
      simp only [List.length_append] at hlt
      simp only [b_sjoin_1, d1, phiJ_2, bwsS, hX1, hgetj, hgaj, if_true, Int.toNat_natCast, List.length_map, Bs_app, go_sem, Nat.reduceDiv, Nat.reduceMod, ↓reduceIte, Nat.reduceEqDiff, Nat.reduceBEq, Nat.reduceSub, Nat.reduceLT, Nat.reduceAdd, Nat.reduceLeDiff, reduceCtorEq, Int.reduceEq, Int.reduceNe, Int.reduceLT, Int.reduceLE, Int.reduceToNat]
      refine ⟨⟨by omega, by omega⟩, by simp only [bytesOk, List.length_append]; omega, by simp only [bytesOk, List.length_append]; omega, ⟨by omega, by omega⟩, hR _ (j + 1) hjl (by omega) ?_⟩
      have e : x ++ (ys.take (j + 1)).flatMap (sep ++ ·) = x ++ (ys.take j).flatMap (sep ++ ·) ++ sep ++ ys[j] := by rw [← hft]; simp
      rw [e]
      rfl
    · have d1 : decide ((j : Int) < (ys.length : Int)) = false := decide_eq_false (by omega)
      obtain rfl : j = ys.length := by omega
      rw [List.take_length, ← hjw]
      simp only [b_sjoin_1, t_sjoin_0, r_sjoin, d1, phiJ_3, bstrS, unB_Bs, if_true, go_sem, Nat.reduceDiv, Nat.reduceMod, ↓reduceIte, Nat.reduceEqDiff, Nat.reduceBEq, Nat.reduceSub, Nat.reduceLT, Nat.reduceAdd, Nat.reduceLeDiff, reduceCtorEq, Int.reduceEq, Int.reduceNe, Int.reduceLT, Int.reduceLE, Int.reduceToNat]
set_option maxHeartbeats 2000000 in
theorem join_ok : FnOk Tryd.prog 17 joinS := by
  refine fn_slim2 Tryd.func17 s_sjoin phiJ_ok ?_
  intro xs hp r hs hp'
  unfold joinS at hs
  split at hs
  · injection hs with hs; subst hs
    rename_i kq ps sep
    obtain ⟨p1, p2, p3, p4, p5⟩ := hp'
    generalize ps.map unS = ps at *
    subst p1
    rw [List.length_map] at p3
    refine ⟨len_le (by kernel_rfl), ?_⟩
    match ps, p2, p3, p5 with
    | [], _, _, _ =>
      simp only [c_sjoin, r_sjoin, joinW, go_sem, Nat.reduceDiv, Nat.reduceMod, ↓reduceIte, Nat.reduceEqDiff, Nat.reduceBEq, Nat.reduceSub, Nat.reduceLT, Nat.reduceAdd, Nat.reduceLeDiff, reduceCtorEq, Int.reduceEq, Int.reduceNe, Int.reduceLT, Int.reduceLE, Int.reduceToNat]
    | [x], p2, _, _ =>
      have hk : kq = 1 := p2.resolve_right (by simp)
      subst hk
      simp only [c_sjoin, r_sjoin, joinW, List.flatMap_nil, List.append_nil, go_sem, Nat.reduceDiv, Nat.reduceMod, ↓reduceIte, Nat.reduceEqDiff, Nat.reduceBEq, Nat.reduceSub, Nat.reduceLT, Nat.reduceAdd, Nat.reduceLeDiff, reduceCtorEq, Int.reduceEq, Int.reduceNe, Int.reduceLT, Int.reduceLE, Int.reduceToNat]
    | x :: y :: rest, p2, p3, p5 =>
      have hk : kq = 1 := p2.resolve_right (by simp)
      subst hk
      clear p2
      have hcore := fun n0 h0 h1 => join_core (sep := sep) (x := x) (ys := y :: rest) n0 h0 h1 p3 p4 p5
      have hpos : 2 ≤ (x :: y :: rest).length := by simp
      generalize x :: y :: rest = zs at *
      have d0 : decide ((zs.length : Int) = 0) = false := decide_eq_false (by omega)
      have d1 : decide ((zs.length : Int) = 1) = false := decide_eq_false (by omega)
      have hq := quo_big (k := zs.length - 1) (by omega) (by omega)
      have hq : (9000000000000 : Int) ≤ (9223372036854775807 : Int).tdiv ((zs.length : Int) - 1) := by rwa [show ((zs.length - 1 : Nat) : Int) = (zs.length : Int) - 1 by omega] at hq
      have hq2 : (9223372036854775807 : Int).tdiv ((zs.length : Int) - 1) ≤ 9223372036854775807 := by
        rw [Int.tdiv_eq_ediv_of_nonneg (by decide)]
        exact Int.ediv_le_self _ (by decide)
      have d3 : decide ((9223372036854775807 : Int).tdiv ((zs.length : Int) - 1) ≤ (sep.length : Int)) = false := decide_eq_false (by omega)
      have hmul : 0 ≤ (sep.length : Int) * ((zs.length : Int) - 1) ∧ (sep.length : Int) * ((zs.length : Int) - 1) ≤ 1000000000000 := by
        have h1 : sep.length * (zs.length - 1) ≤ 1000000 * 1000000 := Nat.mul_le_mul p4 (by omega)
        have h2 : (sep.length : Int) * ((zs.length : Int) - 1) = ((sep.length * (zs.length - 1) : Nat) : Int) := by
          rw [Int.natCast_mul, show ((zs.length - 1 : Nat) : Int) = (zs.length : Int) - 1 by omega]
        omega
      obtain ⟨hm0, hm1⟩ := hmul
      cases h2 : decide (0 < (sep.length : Int)) with
      | false =>
        simp only [c_sjoin, d0, d1, h2, List.length_map, go_sem, Nat.reduceDiv, Nat.reduceMod, ↓reduceIte, Nat.reduceEqDiff, Nat.reduceBEq, Nat.reduceSub, Nat.reduceLT, Nat.reduceAdd, Nat.reduceLeDiff, reduceCtorEq, Int.reduceEq, Int.reduceNe, Int.reduceLT, Int.reduceLE, Int.reduceToNat]
        exact hcore 0 (by omega) (by omega) _ _ (by rfl)
      | true =>
        simp only [c_sjoin, d0, d1, d3, h2, List.length_map, go_sem, Nat.reduceDiv, Nat.reduceMod, ↓reduceIte, Nat.reduceEqDiff, Nat.reduceBEq, Nat.reduceSub, Nat.reduceLT, Nat.reduceAdd, Nat.reduceLeDiff, reduceCtorEq, Int.reduceEq, Int.reduceNe, Int.reduceLT, Int.reduceLE, Int.reduceToNat]
        generalize (9223372036854775807 : Int).tdiv ((zs.length : Int) - 1) = Q at *
        generalize (sep.length : Int) * ((zs.length : Int) - 1) = M at *
        exact ⟨⟨by omega, by omega⟩, ⟨by omega, by omega, by omega⟩, ⟨by omega, by omega⟩, ⟨by omega, by omega⟩, ⟨by omega, by omega⟩, hcore (0 + M) (by omega) (by omega) _ _ (by rfl)⟩
  · cases hs
end Go.Proofs.YtfabdnpeohpgnaaDoor
namespace Go.Proofs.YtfabdnpeohpgnaaDoor
set_option linter.all false
open Go.RowKit
end Go.Proofs.YtfabdnpeohpgnaaDoor
namespace Go.Proofs.YtfabdnpeohpgnaaDoor
set_option linter.all false
open Go.RowKit
open Go.Lib (decDigits itoa atoiAll parseUint10 parseMag nDigits)
def dc (d : Nat) : UInt8 := UInt8.ofNat (48 + d)
theorem dc_toNat {d : Nat} (h : d < 10) : (dc d).toNat = 48 + d := by simp [dc]; omega
theorem decD_small {n : Nat} (h : n < 10) : decDigits n = [dc n] := by rw [decDigits, dif_pos h]; rfl
theorem decD_big {n : Nat} (h : 10 ≤ n) : decDigits n = decDigits (n / 10) ++ [dc (n % 10)] := by rw [decDigits, dif_neg (by omega)]; rfl
theorem decD_head (n : Nat) : ∃ d r, decDigits n = dc d :: r ∧ d < 10 ∧ (0 < n → 0 < d) ∧ (n < 10 → r = []) := by
  induction n using Nat.strongRecOn with
  | _ n ih =>
    by_cases h : n < 10
    · exact ⟨n, [], decD_small h, h, fun h => h, fun _ => rfl⟩
    · obtain ⟨d, r, e, h1, h2, _⟩ := ih (n / 10) (by omega)
      refine ⟨d, r ++ [dc (n % 10)], by rw [decD_big (by omega), e]; rfl, h1, fun _ => h2 (by omega), fun hh => absurd hh h⟩
theorem itoa_nat (n : Nat) : itoa (n : Int) = decDigits n := Lib.itoa_nonneg n
theorem pu_dec (n : Nat) (h : n < 18446744073709551616) (r : List UInt8) : parseUint10 0 (decDigits n ++ r) = parseUint10 n r := by
  induction n using Nat.strongRecOn generalizing r with
  | _ n ih =>
    by_cases h1 : n < 10
    · rw [decD_small h1]
      simp only [List.cons_append, List.nil_append, parseUint10, dc_toNat h1]
      rw [if_pos (by omega), if_neg (by omega), if_neg (by omega)]
      congr 1; omega
    · rw [decD_big (by omega), List.append_assoc, ih (n / 10) (by omega) (by omega)]
      have hd : n % 10 < 10 := by omega
      simp only [List.cons_append, List.nil_append, parseUint10, dc_toNat hd]
      rw [if_pos (by omega), if_neg (by omega), if_neg (by omega)]
      congr 1; omega
theorem atoi_dec (n : Nat) (h : n < 9223372036854775808) : atoiAll (decDigits n) = .ok (n : Int) := by
  obtain ⟨d, r, e, h1, _, _⟩ := decD_head n
  have hp : parseMag (decDigits n) = .ok n := by
    have := pu_dec n (by omega) []
    rw [List.append_nil] at this
    unfold parseMag
    rw [if_neg (by rw [e]; simp), this]; rfl
  have ht := dc_toNat h1
  rw [e] at hp ⊢
  unfold atoiAll
  simp only [ht]
  rw [if_neg (by omega), hp]
  simp only
  rw [if_neg (by omega), if_neg (by omega), if_neg (by omega)]
def decV (s : List UInt8) : Option Nat :=
  match atoiAll s with
  | .ok v => if 0 ≤ v ∧ v < 4611686018427387904 ∧ itoa v = s then some v.toNat else none
  | _ => none
theorem decV_dec (n : Nat) (h : n < 4611686018427387904) : decV (decDigits n) = some n := by
  unfold decV
  rw [atoi_dec n (by omega)]
  simp only
  rw [if_pos ⟨by omega, by omega, itoa_nat n⟩]; rfl
theorem decV_some {s : List UInt8} {n : Nat} (h : decV s = some n) : s = decDigits n ∧ n < 4611686018427387904 := by
  unfold decV at h
  split at h
  · split at h
    · rename_i v _ hc
      obtain ⟨h1, h2, h3⟩ := hc
      injection h with h
      subst h
      refine ⟨?_, by omega⟩
      rw [← h3, ← itoa_nat, Int.toNat_of_nonneg h1]
    · cases h
  · cases h
end Go.Proofs.YtfabdnpeohpgnaaDoor
namespace Go.Proofs.YtfabdnpeohpgnaaDoor
set_option linter.all false
open Go.RowKit
open Go.Lib (itoa)
open Go.Sort (grow)
theorem tab_of {w : World} {S : Nat → Prop} (h : GlobOk w S) : Lib.TabIs Tryd.prog w "internal/strconv.uint64pow10" .u64 Lib.pow10Tab := by
  obtain ⟨_, us, t, fr, h2, _, h4⟩ := h.1 1 20 (.blob (Lib.pow10Tab.map fun z => .int .u64 z)) (by kernel_rfl)
  have h5 : us = Lib.pow10Tab.map fun z => Value.int .u64 z := by cases h2; rfl
  unfold Lib.TabIs World.var?
  rw [show Tryd.prog.globalNamed "internal/strconv.uint64pow10" = some 1 by kernel_rfl]
  simp only [Option.bind_some, h4, h5]
theorem below_grow (w : World) (k : Nat) (os : Array Obj) : Below w.heap.size w (grow (w.drewN k) os) := by
  have e : ∀ k, (w.drewN k).heap = w.heap ∧ (w.drewN k).os = w.os ∧ (w.drewN k).tape = w.tape ∧ (w.drewN k).output = w.output := by
    intro k
    induction k with
    | zero => exact ⟨rfl, rfl, rfl, rfl⟩
    | succ k ih => simpa [World.drewN] using ih
  obtain ⟨e1, e2, e3, e4⟩ := e k
  refine ⟨by simp [grow, e2], by simp [grow, e3], by simp [grow, e4], by simp [grow, e1], fun j hj => ?_⟩
  simp [grow, e1, Array.getElem?_append_left hj]
def itoaS : Spec := fun xs hp => match xs, hp with
  | [.int .i64 n], [] => some ⟨.str (itoa n), [], inI n⟩
  | _, _ => none
theorem itoa_ok : FnOk Tryd.prog 26 itoaS := by
  refine fnok_of_calls fun xs0 hp r hs hp' => ?_
  unfold itoaS at hs
  split at hs
  · rename_i n
    injection hs with hs; subst hs
    refine ⟨rfl, rfl, fun w S ρ args hS ha => ?_⟩
    obtain ⟨v, vs, rfl, hv, hr⟩ := ha.get _ _ rfl
    obtain rfl := hr.none
    rw [hv.int]
    refine (Tryd.strconv_Itoa n hp'.1 hp'.2 w (tab_of ha.glob)).mono ?_
    rintro e w' ⟨rfl, k, os, rfl⟩
    exact ⟨_, rfl, below_grow w k os, fun _ _ _ => Vl.str' _⟩
  · cases hs
end Go.Proofs.YtfabdnpeohpgnaaDoor
namespace Go.Proofs.YtfabdnpeohpgnaaDoor
set_option linter.all false
open Go.RowKit
open Go.Lib (itoa atoiAll)
def atoiR (s : List UInt8) : Lib.NumEnd Int → AV
  | .ok v => .tup [.int .i64 v, .con .nilIface]
  | .range => .tup [.int .i64 (Lib.atoiSat s), .iface 115 .top]
  | _ => .tup [.int .i64 0, .iface 115 .top]
def atoiS : Spec := fun xs hp => match xs, hp with
  | [.str s], [] => some ⟨atoiR s (atoiAll s), [], s.length ≤ 281474976710656⟩
  | _, _ => none
theorem tup2 {w : World} {S : Nat → Prop} {ρ : Rho} {x y : AV} {u v : Value} (hx : Vl1 w S ρ x u) (hy : Vl1 w S ρ y v) : Vl w S ρ (.tup [x, y]) (.tuple #[u, v]) :=
  ⟨[u, v], rfl, rfl, fun i hi => by
    match i, hi with
    | 0, _ => exact hx
    | 1, _ => exact hy⟩
theorem ifaceTop {w : World} {S : Nat → Prop} {ρ : Rho} (t : TypeId) (v : Value) (h : v.oneCell' = true) : Vl1 w S ρ (.iface t .top) (.iface t v) :=
  .inr ⟨[.iface t v], .iface t .top [v] (.top _ fun u hu => by simp only [List.mem_singleton] at hu; subst hu; exact h), rfl⟩
theorem err_cell {w : World} {S : Nat → Prop} {g : Nat} {t : TypeId} {l : List UInt8} (h : GlobOk w S) (hg : glob1 g globs = some (1, .iface t (.ptr 1 (.str l) 0 0))) : ∃ ev, w.cell? ⟨g, 0, none⟩ = some ev ∧ ∃ te pe, ev = .iface te pe := by
  obtain ⟨_, us, ty, fr, h2, _, h4⟩ := h.1 _ _ _ hg
  cases h2 with
  | iface _ _ vs _ => exact ⟨_, by rw [cell_of_row w g 0 _ ty fr h4]; rfl, _, _, rfl⟩
theorem atoi_ok : FnOk Tryd.prog 47 atoiS := by
  refine fnok_of_calls fun xs0 hp r hs hp' => ?_
  unfold atoiS at hs
  split at hs
  · rename_i s
    injection hs with hs; subst hs
    refine ⟨rfl, rfl, fun w S ρ args hS ha => ?_⟩
    obtain ⟨v, vs, rfl, hv, hr⟩ := ha.get _ _ rfl
    obtain rfl := hr.none
    rw [hv.str]
    have hsz : (⟨s.toArray⟩ : ByteArray).size = s.length := rfl
    have hl : s.length ≤ 281474976710656 := hp'
    rcases h : atoiAll s with v | _ | _
    · refine (Tryd.strconv_Atoi_ok ⟨s.toArray⟩ (by rw [hsz]; omega) v h w).mono ?_
      rintro e w' ⟨rfl, hw⟩
      refine ⟨_, rfl, ?_, fun _ _ _ => tup2 (.inr ⟨_, .int _ _, rfl⟩) (.inr ⟨_, .con _ rfl, rfl⟩)⟩
      rcases hw with rfl | ⟨t, rfl⟩
      · exact Below.refl _ _
      · exact Lib.bytesWorld_below _ _ _
    · obtain ⟨ev, h1, te, pe, h2⟩ := err_cell ha.glob (g := 2) rfl
      refine (Tryd.strconv_Atoi_syntax ⟨s.toArray⟩ (by rw [hsz]; omega) (h.trans rfl) ev w h1 (.inr ⟨te, pe, h2⟩)).mono ?_
      rintro e w' ⟨N, rfl, _, _, hb⟩
      exact ⟨_, rfl, hb, fun _ _ _ => tup2 (.inr ⟨_, .int _ _, rfl⟩) (ifaceTop _ _ rfl)⟩
    · obtain ⟨ev, h1, te, pe, h2⟩ := err_cell ha.glob (g := 3) rfl
      refine (Tryd.strconv_Atoi_range ⟨s.toArray⟩ (by rw [hsz]; omega) h ev w h1 (.inr ⟨te, pe, h2⟩)).mono ?_
      rintro e w' ⟨N, rfl, _, _, hb⟩
      exact ⟨_, rfl, hb, fun _ _ _ => tup2 (.inr ⟨_, .int _ _, rfl⟩) (ifaceTop _ _ rfl)⟩
  · cases hs
end Go.Proofs.YtfabdnpeohpgnaaDoor
namespace Go.Proofs.YtfabdnpeohpgnaaDoor
set_option linter.all false
open Go.RowKit
noncomputable def sealF {α β : Type} (f : α → β) : α → β := Classical.choose (⟨f, fun _ => rfl⟩ : ∃ g : α → β, ∀ a, g a = f a)
theorem sealF_eq {α β : Type} (f : α → β) (a : α) : sealF f a = f a := Classical.choose_spec (⟨f, fun _ => rfl⟩ : ∃ g : α → β, ∀ a, g a = f a) a
end Go.Proofs.YtfabdnpeohpgnaaDoor
namespace Go.Proofs.YtfabdnpeohpgnaaDoor
set_option linter.all false
open Go.RowKit
def c_right : ACode := (.seq (.reg none [⟨(some 2), (.mv (.c (.bool false))), none⟩]) (.seq (.reg none [⟨(some 3), (.mv (.t 0)), none⟩, ⟨(some 4), (.bin .geq (.t 3) (.c (.int .i64 0))), none⟩, ⟨(some 5), (.mv (.t 4)), none⟩, ⟨(some 6), (.mv (.t 0)), (some (5, true))⟩, ⟨(some 7), (.bin .lss (.t 6) (.c (.int .i64 4611686018427387904))), (some (5, true))⟩, ⟨(some 8), (.pick (.t 5) (.t 7) (.c (.bool false))), none⟩, ⟨(some 2), (.mv (.t 8)), none⟩]) .ret))
def r_right : List ARes := [(.t 2)]
theorem s_right : slimF Tryd.prog Tryd.f48 = some (c_right, r_right) := by kernel_rfl
theorem okN_ex : ∃ f : Int → Bool, ∀ n, f n = decide (0 ≤ n ∧ n < 4611686018427387904) := ⟨fun n => decide (0 ≤ n ∧ n < 4611686018427387904), fun _ => rfl⟩
noncomputable def okN : Int → Bool := Classical.choose okN_ex
theorem okN_eq (n : Int) : okN n = decide (0 ≤ n ∧ n < 4611686018427387904) := Classical.choose_spec okN_ex n
theorem okN_t {n : Int} (h : okN n = true) : 0 ≤ n ∧ n < 4611686018427387904 := of_decide_eq_true (by rw [← okN_eq]; exact h)
theorem okN_mk {n : Int} (h : 0 ≤ n) (h' : n < 4611686018427387904) : okN n = true := by rw [okN_eq]; exact decide_eq_true ⟨h, h'⟩
theorem okN_no {n : Int} (h : n < 0 ∨ 4611686018427387904 ≤ n) : okN n = false := by rw [okN_eq]; exact decide_eq_false (by omega)
noncomputable def rightS : Spec := fun xs hp => match xs, hp with
  | [.int .i64 n], [] => some ⟨.bool (okN n), [], True⟩
  | _, _ => none
theorem right_ok : FnOk Tryd.prog 48 rightS := by
  refine fn_slim Tryd.func48 s_right (Φ := phiL []) phi_nil ?_
  intro xs hp r hs hp'
  unfold rightS at hs
  split at hs
  · injection hs with hs; subst hs
    rename_i n
    refine ⟨len_le (by kernel_rfl), ?_⟩
    simp only [c_right, r_right, awp_scope, noG_n, noG_r, noG_x, awp_skip, awp_reg, awp_draw, awp_seq, awp_cond, awp_block, awp_loop, awp_exit, awp_ret, arun_nil, arun_op, arun_gt, arun_gf, arunD_nil, arunD_op, arunD_gt, arunD_gf, aq_some, isB_t, isB_u, isB_f, isB_g, isB_p, isU_t, isU_b, ifB_t, ifB_f, thenQ_n, thenQ_x, thenQ_r, inQ_n, inQ_r, inQ_x, retQ_n, retQ_r, exD, AOp.isH, keepN, preB, avalP, pureR, astep, stV, stN, stE, stC, aval, anew, aElems, frzS, frzH, aeff, slots, aret, ares, aress, AV.isTup, eqFs, aEqS, ofC_i, ofC_b, ofC_s, ofC_U, getD_mapU, getD_Bs, Bs_len, Int.toNat_natCast, opd, pt, tk, subp, rdP, Rt.size, Rt.isAgg, Rt.zv, aBin, aInt, aStr, arI, aUn, aToInt, aToStr, aIdxS, zv, aIdxA, aIa, aIaA, aFa, aLd, aFld, pparts, aLo, aHi, cutL, aSlS, aSl, aExt, aNck, aNilc, AV.isStr, aLen, AV.one, AV.multi, pureB, szOk, psz, drp, spl, aEqB, aEqA, aMm, aMkfn, aMkif, aBuild, toV, aBuildA, wrP, unparts, view, nilS, St.ev, lk, St.put, St.pin, St.pinV, acall0, acall1, acall2, acall3, bor, bor0, bor1, phiL_nil, phiL_at, tau, lentO, okIds, flatC, flatB, flatOs, flatO, flatPs, place, setAll_nil, setAll_cons, nodupB, renObj, closeIds, addNew, idsOf, idsObj, posOf, lenOk_0, lenOk_1, lenOk_2, lenOk_3, lenOk_4, lenOk_8, ↓reduceIte, Option.isSome_none, Option.isSome_some, Bool.or_true, Bool.true_or,  Nat.reduceEqDiff, Nat.reduceBEq, Nat.reduceSub, Nat.reduceLT, beq_self_eq_true, List.map, List.set, List.map_cons, List.map_nil, List.flatMap_cons, List.flatMap_nil, List.flatten_cons, List.flatten_nil, true_and, and_true, List.length_cons, List.length_nil, Nat.reduceAdd, Nat.reduceLeDiff, List.nil_append, List.cons_append, List.append_nil, Option.map, mapO, ren, kp, kpI, ent, nilG, Option.bind, List.range, List.range.loop, List.getElem?_cons_zero, List.getElem?_cons_succ, List.getElem?_nil, List.getD_cons_zero, List.getD_cons_succ, List.drop_zero, List.drop_succ_cons, List.drop_nil, List.take_zero, List.take_succ_cons, List.all_cons, List.all_nil, List.isEmpty_nil, List.isEmpty_cons, Bool.and_true, Bool.true_and, Bool.not_true, Bool.not_false, List.contains_nil, reduceCtorEq, List.contains_cons, Bool.or_false, Bool.false_or, eq_self, forall_const, false_implies, Bool.false_eq_true, Nat.le_refl, List.length_map, List.length_set, List.length_replicate, and_self, implies_true]
    refine ⟨fun h => ?_, fun h => ?_⟩
    · have h1 := of_decide_eq_true h
      simp only [h, Bool.false_eq_true, renObj, finP, finI, closeIds, addNew, idsOf, List.flatMap_nil, List.flatMap_cons, List.append_nil, List.nil_append, List.take_zero, nodupB, posOf, idsObj, List.getD_cons_zero, List.getD_cons_succ, List.range, List.range.loop, ren, lentO, mapO, Option.map, ↓reduceIte, Nat.reduceEqDiff, true_and, and_true, List.getElem?_cons_zero, List.getElem?_cons_succ, Nat.reduceAdd, List.contains_nil, Bool.not_false, Bool.and_true, List.map_nil, List.map_cons, List.take_succ_cons]
      have : okN n = decide (n < 4611686018427387904) := by rw [okN_eq]; simp [h1]
      rw [this]
    · have h1 := of_decide_eq_false h
      simp only [h, Bool.false_eq_true, renObj, finP, finI, closeIds, addNew, idsOf, List.flatMap_nil, List.flatMap_cons, List.append_nil, List.nil_append, List.take_zero, nodupB, posOf, idsObj, List.getD_cons_zero, List.getD_cons_succ, List.range, List.range.loop, ren, lentO, mapO, Option.map, ↓reduceIte, Nat.reduceEqDiff, true_and, and_true, List.getElem?_cons_zero, List.getElem?_cons_succ, Nat.reduceAdd, List.contains_nil, Bool.not_false, Bool.and_true, List.map_nil, List.map_cons, List.take_succ_cons]
      have : okN n = false := okN_no (by omega)
      rw [this]
  · cases hs
end Go.Proofs.YtfabdnpeohpgnaaDoor
